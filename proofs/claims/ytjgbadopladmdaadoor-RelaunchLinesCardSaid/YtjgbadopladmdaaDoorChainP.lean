/- The plain law of made chains: valid relaunches; the line of a line. -/
import Derived.Test.YtjgbadopladmdaaDoorRelE
import Derived.Test.YtjgbadopladmdaaDoorIdW
import Derived.Test.YtjgbadopladmdaaDoorRenW
namespace Go.Proofs.YtjgbadopladmdaaDoor
open Go.RowKit Rel

/-- the j-th relaunch of a chain -/
def lk (j : Nat) : Lk := (idS (j : Int), idS ((j : Int) + 1))
theorem lk_inj {a b : Nat} (ha : a < 1000) (hb : b < 1000) : ((lk a).1 = (lk b).1 → a = b) ∧ ((lk a).2 = (lk b).2 → a = b) :=
  ⟨fun h => by have := idS_inj (a := (a : Int)) (b := (b : Int)) (by omega) (by omega) h; omega,
   fun h => by have := idS_inj (a := (a : Int) + 1) (b := (b : Int) + 1) (by omega) (by omega) h; omega⟩
theorem lk_bad {a : Nat} (ha : a < 1000) : badLk (lk a) = false := by
  unfold badLk lk
  rw [idS_vid, idS_vid, str_eq]
  have : idS (a : Int) ≠ idS ((a : Int) + 1) := fun h => by
    have := idS_inj (a := (a : Int)) (b := (a : Int) + 1) (by omega) (by omega) h; omega
  simp [this]

theorem nodup_map_of {α β : Type} {f : α → β} : ∀ {J : List α}, J.Nodup → (∀ a ∈ J, ∀ b ∈ J, f a = f b → a = b) → (J.map f).Nodup
  | [], _, _ => List.nodup_nil
  | c :: J, h, hf => by
    rw [List.nodup_cons] at h
    rw [List.map_cons, List.nodup_cons]
    refine ⟨fun hm => ?_, nodup_map_of h.2 fun a ha b hb => hf a (List.mem_cons_of_mem _ ha) b (List.mem_cons_of_mem _ hb)⟩
    obtain ⟨a, ha, e⟩ := List.mem_map.1 hm
    have := hf a (List.mem_cons_of_mem _ ha) c List.mem_cons_self e
    exact h.1 (this ▸ ha)

theorem chain_uniq {J : List Nat} (hn : J.Nodup) (hb : ∀ j ∈ J, j < 1000) : Uniq (J.map lk) :=
  ⟨by rw [List.map_map]; exact nodup_map_of hn fun a ha b hb' e => (lk_inj (hb a ha) (hb b hb')).1 e,
   by rw [List.map_map]; exact nodup_map_of hn fun a ha b hb' e => (lk_inj (hb a ha) (hb b hb')).2 e⟩

theorem chain_back {J : List Nat} (hb : ∀ j ∈ J, j < 1000) : ∀ (d : Nat) (j : Nat) (y : ByteArray), j < 1000 → iter (back (J.map lk)) d (idS (j : Int)) = some y → ∃ i : Nat, y = idS (i : Int) ∧ i + d = j
  | 0, j, y, _, h => ⟨j, (Option.some.inj h).symm, rfl⟩
  | d + 1, j, y, hj, h => by
    rw [iter_succ] at h
    cases hh : iter (back (J.map lk)) d (idS (j : Int)) with
    | none => rw [hh] at h; cases h
    | some z =>
      rw [hh] at h
      obtain ⟨i, rfl, hi⟩ := chain_back hb d j z hj hh
      have hm := back_mem (show back (J.map lk) (idS (i : Int)) = some y from h)
      obtain ⟨a, ha, e⟩ := List.mem_map.1 hm
      have e1 : idS (a : Int) = y := congrArg Prod.fst e
      have e2 : idS ((a : Int) + 1) = idS (i : Int) := congrArg Prod.snd e
      have ha' := hb a ha
      have := idS_inj (a := (a : Int) + 1) (b := (i : Int)) (by omega) (by omega) e2
      exact ⟨a, e1.symm, by omega⟩

theorem chain_ph1 {J : List Nat} (hn : J.Nodup) (hb : ∀ j ∈ J, j < 1000) : ∀ k, k ≤ (J.map lk).length → ph1 (J.map lk) k = 0
  | 0, _ => rfl
  | k + 1, hk => by
    have hr : (J.map lk)[k]? = some ((J.map lk)[k]'(by omega)) := List.getElem?_eq_getElem (by omega)
    rw [ph1_next (chain_ph1 hn hb k (by omega)) hr]
    have hmem := List.getElem_mem (show k < (J.map lk).length by omega)
    have hbad : badLk ((J.map lk)[k]'(by omega)) = false := by
      obtain ⟨a, ha, e⟩ := List.mem_map.1 hmem
      rw [← e]; exact lk_bad (hb a ha)
    have hany : ((J.map lk).take k).any (fun x => share x ((J.map lk)[k]'(by omega))) = false := by
      rw [List.any_eq_false]
      intro x hx
      obtain ⟨i, hi, e⟩ := List.getElem_of_mem hx
      rw [List.length_take] at hi
      rw [List.getElem_take] at e
      have hkl : k < J.length := by rw [List.length_map] at hk; omega
      have hil : i < J.length := by omega
      have hne : J[i] ≠ J[k] := List.pairwise_iff_getElem.1 hn i k hil hkl (by omega)
      rw [← e, List.getElem_map, List.getElem_map]
      have h1 : (lk J[i]).1 ≠ (lk J[k]).1 := fun h => hne ((lk_inj (hb _ (List.getElem_mem hil)) (hb _ (List.getElem_mem hkl))).1 h)
      have h2 : (lk J[i]).2 ≠ (lk J[k]).2 := fun h => hne ((lk_inj (hb _ (List.getElem_mem hil)) (hb _ (List.getElem_mem hkl))).2 h)
      unfold share
      rw [str_eq, str_eq]
      simp [h1, h2]
    unfold codeOf
    rw [hbad, hany]
    rfl

/-- a made chain is valid -/
theorem chain_ok {J : List Nat} (hn : J.Nodup) (hb : ∀ j ∈ J, j < 1000) (hl : J.length ≤ 200) : errno (J.map lk) = 0 := by
  refine errno_ok (by simpa using hl) (chain_ph1 hn hb _ (Nat.le_refl _)) ?_
  rw [List.any_eq_false]
  intro r hr hc
  obtain ⟨d, hd, h⟩ := (cyc_iff (chain_uniq hn hb) hr).1 hc
  obtain ⟨a, ha, rfl⟩ := List.mem_map.1 hr
  have ha' := hb a ha
  obtain ⟨i, e, hi⟩ := chain_back hb d a _ ha' h
  have := idS_inj (a := (a : Int)) (b := (i : Int)) (by omega) (by omega) e
  omega

theorem line_end {L : List Lk} (hg : Rel.Good L) {id : ByteArray} : ∀ (g : Nat) (cur : ByteArray), Going L id g cur → back L (line L id) = none
  | g, cur, h => by
    cases hb : back L cur with
    | none => rw [going_end h hb]; exact hb
    | some o =>
      obtain ⟨g', rfl, h'⟩ := going_next hg h hb
      exact line_end hg g' o h'
theorem line_line {L : List Lk} (hg : Rel.Good L) (id : ByteArray) : line L (line L id) = line L id :=
  top_none _ (line_end hg _ _ (going_start L id))
theorem ren_ren {L : List Lk} (hg : Rel.Good L) (R : List Rw) : (R.map (ren L)).map (ren L) = R.map (ren L) := by
  rw [List.map_map]
  refine List.map_congr_left fun r _ => ?_
  show ren L (ren L r) = ren L r
  unfold ren
  rw [line_line hg]

theorem mem_insert_at {J : List Nat} {at_ k a : Nat} : a ∈ J.take at_ ++ [k] ++ J.drop at_ ↔ a = k ∨ a ∈ J := by
  rw [List.mem_append, List.mem_append, List.mem_singleton]
  constructor
  · rintro ((h | h) | h)
    · exact .inr (List.mem_of_mem_take h)
    · exact .inl h
    · exact .inr (List.mem_of_mem_drop h)
  · rintro (h | h)
    · exact .inl (.inr h)
    · rw [← List.take_append_drop at_ J, List.mem_append] at h
      rcases h with h | h
      · exact .inl (.inl h)
      · exact .inr h
theorem nodup_insert_at {J : List Nat} {at_ k : Nat} (hn : J.Nodup) (hk : k ∉ J) : (J.take at_ ++ [k] ++ J.drop at_).Nodup := by
  have h := hn
  rw [← List.take_append_drop at_ J, List.nodup_append] at h
  have hk' : ∀ a ∈ J.take at_, a ≠ k := fun a ha e => hk (e ▸ List.mem_of_mem_take ha)
  have hk2 : ∀ a ∈ J.drop at_, a ≠ k := fun a ha e => hk (e ▸ List.mem_of_mem_drop ha)
  rw [List.append_assoc, List.nodup_append]
  refine ⟨h.1, ?_, ?_⟩
  · rw [List.singleton_append, List.nodup_cons]
    exact ⟨fun hm => hk2 _ hm rfl, h.2.1⟩
  · intro a ha b hb
    rw [List.singleton_append, List.mem_cons] at hb
    rcases hb with rfl | hb
    · exact hk' a ha
    · exact h.2.2 a ha b hb
end Go.Proofs.YtjgbadopladmdaaDoor
