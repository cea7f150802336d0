/- A region that draws its order, each operation walked once: an invariant over what has come up so far. -/
import Derived.RegionTactic
import Derived.WalkKit
namespace Go.Proofs.YtjgbadopladmdaaDoor

/-- x if b, else y -/
def sel (b : Bool) (x y : Value) : Value := if b then x else y
@[simp] theorem sel_true (x y : Value) : sel true x y = x := rfl
@[simp] theorem sel_false (x y : Value) : sel false x y = y := rfl

def upd (a : Act) : List (Nat × Value) → Act
  | [] => a
  | p :: l => upd (a.put (some p.1) p.2) l

/-- what stands behind one operation -/
def After (Q : Exit → Act → World → Prop) (J : Act → World → Prop) : Exit → Act → World → Prop
  | .normal, a, w => J a w
  | e, a, w => Q e a w

/-- whom an operation waits for -/
def needs (o : Oper) : List Nat := (o.after.toList.filter (fun e => Region.binds .any e)).map (·.on)
theorem mem_needs {o : Oper} {j : Nat} : j ∈ needs o ↔ ∃ e ∈ o.after, Region.binds .any e = true ∧ e.on = j := by
  unfold needs
  simp only [List.mem_map, List.mem_filter, Array.mem_toList_iff]
  constructor
  · rintro ⟨e, ⟨h1, h2⟩, h3⟩; exact ⟨e, h1, h2, h3⟩
  · rintro ⟨e, h1, h2, h3⟩; exact ⟨e, ⟨h1, h2⟩, h3⟩

/-- who has come up: whom he waited for has, too -/
def Closed (ops : Array Oper) (D : Nat → Bool) : Prop := ∀ (i : Nat) (o : Oper), ops[i]? = some o → D i = true → ∀ j ∈ needs o, D j = true
def lexed (ops : Array Oper) : Bool := (List.range ops.size).all (fun i => ((ops[i]?).map fun o => (needs o).all (fun j => decide (j < i))).getD true)
def also (D : Nat → Bool) (k : Nat) : Nat → Bool := fun j => j == k || D j
theorem Closed.no {ops : Array Oper} {D : Nat → Bool} (h : Closed ops D) (i : Nat) {o : Oper} (ho : ops[i]? = some o) {k : Nat} (hk : (needs o).contains k = true) (hf : D k = false) : D i = false := by
  cases hi : D i with
  | false => rfl
  | true =>
    have := h i o ho hi k (by simpa using hk)
    rw [hf] at this
    cases this

section
variable {P : Program} {ops : Array Oper} {Q : Exit → Act → World → Prop} {J : (Nat → Bool) → Act → World → Prop}

def Step (P : Program) (ops : Array Oper) (Q : Exit → Act → World → Prop) (J : (Nat → Bool) → Act → World → Prop) (k : Nat) (o : Oper) : Prop :=
  ∀ (D : Nat → Bool) (a : Act) (w : World) (K : Act → World → Prop), Closed ops D → D k = false → (∀ j ∈ needs o, D j = true) → J D a w → (∀ a' w', J (also D k) a' w' → K a' w') → wpList P ops (After Q K) [o] a w

def Steps (P : Program) (ops : Array Oper) (Q : Exit → Act → World → Prop) (J : (Nat → Bool) → Act → World → Prop) : Nat → List Oper → Prop
  | _, [] => True
  | k, o :: l => Step P ops Q J k o ∧ Steps P ops Q J (k + 1) l

theorem steps_at : ∀ (l : List Oper) (k i : Nat) (o : Oper), Steps P ops Q J k l → l[i]? = some o → Step P ops Q J (k + i) o
  | [], _, _, _, _, h => by simp at h
  | p :: l, k, 0, o, hs, h => by
    obtain rfl : p = o := by simpa using h
    exact hs.1
  | p :: l, k, i + 1, o, hs, h => by
    have := steps_at l (k + 1) i o hs.2 (by simpa using h)
    rwa [Nat.add_assoc, Nat.add_comm 1 i] at this

theorem wpOp_of_single {i : Nat} {o : Oper} {K : Act → World → Prop} {a : Act} {w : World} (ho : ops[i]? = some o) (h : wpList P ops (After Q K) [o] a w) : wpOp P ops Q i K a w := by
  unfold wpOp
  rw [ho]
  show if Region.wanted o (yielded ops a.tmps) then _ else _
  unfold wpList at h
  split
  · rename_i hw
    rw [if_pos hw] at h
    rcases h with h | ⟨h1, h2⟩
    · refine .inl ?_
      unfold Oper.wp at *
      generalize (execOp a.eval o).run P w = r at *
      cases r with
      | ok n w' =>
        cases n <;> simp only [Oper.upon] at h ⊢
        all_goals first
          | exact h
          | exact Calls.mono h (fun e w'' he => by cases e <;> exact he)
          | exact Rows.mono h (fun _ _ he => he)
      | halt x w' => cases x <;> simp only [Oper.upon] at h ⊢ <;> exact h
    · exact .inr ⟨h1, h2⟩
  · rename_i hw
    rw [if_neg hw] at h
    exact h

theorem lexed_spec (h : lexed ops = true) {i : Nat} {o : Oper} (ho : ops[i]? = some o) : ∀ j ∈ needs o, j < i := by
  have hi : i < ops.size := (Array.getElem?_eq_some_iff.1 ho).1
  have h1 := List.all_eq_true.1 h i (List.mem_range.2 hi)
  rw [ho] at h1
  have h2 : ∀ x ∈ needs o, x < i := by simpa using h1
  exact h2

def toD (listed : Array Bool) : Nat → Bool := fun j => listed.getD j false
theorem toD_set {listed : Array Bool} {i : Nat} (hi : i < listed.size) : toD (listed.setIfInBounds i true) = also (toD listed) i := by
  funext j
  unfold toD also
  by_cases h : j = i
  · subst h
    simp [hi]
  · have h' : (j == i) = false := by simpa using h
    rw [h', Bool.false_or]
    exact getD_set_ne false (fun e => h e.symm)

theorem all_listed (hl : lexed ops = true) {listed : Array Bool} (hz : listed.size = ops.size) (hr : Region.ready .any ops listed = []) : ∀ i, i < ops.size → toD listed i = true := by
  intro i
  induction i using Nat.strongRecOn with
  | ind i ih =>
    intro hi
    cases h : toD listed i with
    | true => rfl
    | false =>
      exfalso
      have ho : ops[i]? = some ops[i] := Array.getElem?_eq_getElem hi
      have hm : i ∈ Region.ready .any ops listed := by
        refine mem_ready.2 ⟨?_, _, ho, fun e he hb => ?_⟩
        · unfold toD at h
          rw [Array.getD_eq_getD_getElem?, Array.getElem?_eq_getElem (by omega)] at h ⊢
          simpa using h
        · have hlt := lexed_spec hl ho e.on (mem_needs.2 ⟨e, he, hb, rfl⟩)
          exact ih e.on hlt (by omega)
      rw [hr] at hm
      cases hm

theorem each_sound (hl : lexed ops = true) (h1 : Steps P ops Q J 0 ops.toList) (h2 : ∀ D a' w', (∀ i, i < ops.size → D i = true) → J D a' w' → Q .normal a' w') :
    ∀ (fuel : Nat) (listed : Array Bool) (a : Act) (w : World), listed.size = ops.size → listed.toList.count false ≤ fuel → Closed ops (toD listed) → J (toD listed) a w → wpAny P .any ops Q fuel listed a w
  | 0, listed, a, w, hz, hc, _, hJ => by
    have hr : Region.ready .any ops listed = [] := by
      cases h : Region.ready .any ops listed with
      | nil => rfl
      | cons i rs =>
        exfalso
        have hm : i ∈ Region.ready .any ops listed := by rw [h]; exact List.mem_cons_self
        obtain ⟨hu, o, ho, _⟩ := mem_ready.1 hm
        have hi : i < listed.size := by rw [hz]; exact (Array.getElem?_eq_some_iff.1 ho).1
        have hf : false ∈ listed.toList := by
          rw [Array.getD_eq_getD_getElem?, Array.getElem?_eq_getElem hi] at hu
          have : listed[i] = false := by simpa using hu
          rw [← this]
          exact Array.mem_toList_iff.2 (Array.getElem_mem hi)
        have := List.count_pos_iff.2 hf
        omega
    exact ⟨hr, h2 _ _ _ (all_listed hl hz hr) hJ⟩
  | fuel + 1, listed, a, w, hz, hc, hcl, hJ => by
    refine ⟨fun hr => h2 _ _ _ (all_listed hl hz hr) hJ, fun i hi => ?_⟩
    obtain ⟨hu, o, ho, hd⟩ := mem_ready.1 hi
    have his : i < ops.size := (Array.getElem?_eq_some_iff.1 ho).1
    have hil : i < listed.size := by omega
    have hs : Step P ops Q J i o := by
      have := steps_at ops.toList 0 i o h1 (by simpa using ho)
      rwa [Nat.zero_add] at this
    have hDi : toD listed i = false := by
      unfold toD
      rw [Array.getD_eq_getD_getElem?, Array.getElem?_eq_getElem hil] at hu ⊢
      simpa using hu
    have hneeds : ∀ j ∈ needs o, toD listed j = true := fun j hj => by
      obtain ⟨e, he, hb, rfl⟩ := mem_needs.1 hj
      exact hd e he hb
    have h := wpOp_of_single ho (hs (toD listed) a w _ hcl hDi hneeds hJ (fun _ _ h => h))
    refine wpOp_mono (fun a' w' h' => ?_) h
    have hcl' : Closed ops (toD (listed.setIfInBounds i true)) := by
      rw [toD_set hil]
      intro k ok hok hk j hj
      unfold also at hk ⊢
      rw [Bool.or_eq_true] at hk ⊢
      rcases hk with hk | hk
      · obtain rfl : k = i := by simpa using hk
        rw [ho] at hok
        obtain rfl := Option.some.inj hok
        exact .inr (hneeds j hj)
      · exact .inr (hcl k ok hok hk j hj)
    refine each_sound hl h1 h2 fuel _ a' w' (by simpa using hz) ?_ hcl' (by rw [toD_set hil]; exact h')
    have hlf : listed.toList[i]'(by simpa using hil) = false := by
      unfold toD at hDi
      rw [Array.getD_eq_getD_getElem?, Array.getElem?_eq_getElem hil] at hDi
      simpa using hDi
    have hcount : (listed.setIfInBounds i true).toList.count false = listed.toList.count false - 1 := by
      rw [Array.toList_setIfInBounds, List.count_set (by simpa using hil)]
      simp [hlf]
    omega

/-- **EACH OPERATION ONCE**: J holds at the start; each operation, from whatever state in which it may come up, leads back to J; J of all leads on. -/
theorem wp_region_each {id : Nat} {a : Act} {w : World} (J : Act → (Nat → Bool) → Act → World → Prop) (hm : P.follows .mixedOrders = true) (hl : lexed ops = true)
    (h0 : J a (fun _ => false) a w.drew) (h1 : Steps P ops Q (J a) 0 ops.toList)
    (h2 : ∀ D a' w', (∀ i, i < ops.size → D i = true) → J a D a' w' → Q .normal a' w') : (Code.region id ops true).wp P Q a w := by
  refine wp_region_any hm (each_sound hl h1 h2 ops.size _ a _ (by simp) ?_ ?_ ?_)
  · simp
  · intro i o ho hi
    unfold toD at hi
    rw [Array.getD_eq_getD_getElem?, Array.getElem?_replicate] at hi
    split at hi <;> simp at hi
  · have : toD (Array.replicate ops.size false) = fun _ => false := by
      funext j
      unfold toD
      rw [Array.getD_eq_getD_getElem?, Array.getElem?_replicate]
      split <;> rfl
    rw [this]
    exact h0
end
end Go.Proofs.YtjgbadopladmdaaDoor
