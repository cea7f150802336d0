/- The plain law of a changed and of two exchanged digits: no Go in sight. -/
import Derived.Test.YtjgbadopladmdaaDoorDigP
namespace Go.Proofs.YtjgbadopladmdaaDoor.Dig

def wt (n i : Nat) : Nat := 1 + 2 * ((n - i) % 2)

theorem ws_step' (l : List UInt8) (n k : Nat) : ws l n (k + 1) = ws l n k + wt n k * dv l k := rfl

/-- the weighted sum sees the first k digits alone -/
theorem ws_congr (l m : List UInt8) (n : Nat) : ∀ k, (∀ i, i < k → dv l i = dv m i) → ws l n k = ws m n k
  | 0, _ => rfl
  | k + 1, h => by rw [ws_step', ws_step', ws_congr l m n k (fun i hi => h i (by omega)), h k (by omega)]

theorem dv_set_same (l : List UInt8) (i : Nat) (x : UInt8) (hi : i < l.length) : dv (l.set i x) i = x.toNat - 48 := by
  unfold dv; rw [List.getElem?_set_self hi]; rfl
theorem dv_set_other (l : List UInt8) (i j : Nat) (x : UInt8) (h : i ≠ j) : dv (l.set i x) j = dv l j := by
  unfold dv; rw [List.getElem?_set_ne h]

theorem ws_set (l : List UInt8) (n i : Nat) (x : UInt8) (hi : i < l.length) : ∀ k, i < k → ws (l.set i x) n k + wt n i * dv l i = ws l n k + wt n i * (x.toNat - 48)
  | 0, h => by omega
  | k + 1, h => by
    rw [ws_step', ws_step']
    by_cases hk : i = k
    · subst hk
      rw [dv_set_same l i x hi, ws_congr (l.set i x) l n i (fun j hj => dv_set_other l i j x (by omega))]
      omega
    · have := ws_set l n i x hi k (by omega)
      rw [dv_set_other l i k x hk]
      omega

theorem vid_total (t : List UInt8) (h : t.length = 8 ∨ t.length = 13) : vid t = (alld t && (ws t (t.length - 1) t.length % 10 == 0)) := by
  have hlen : ((t.length == 8) || (t.length == 13)) = true := by rcases h with h | h <;> rw [h] <;> rfl
  unfold vid
  rw [hlen, Bool.true_and]
  cases ha : alld t
  · rfl
  · rw [Bool.true_and, Bool.true_and]
    have hl : (t.take (t.length - 1)).length = t.length - 1 := by rw [List.length_take]; omega
    have h9 := dv_le t (t.length - 1) ha
    unfold cdv
    rw [hl]
    have e1 : ws (t.take (t.length - 1)) (t.length - 1) (t.length - 1) = ws t (t.length - 1) (t.length - 1) :=
      ws_congr _ _ _ _ (fun i hi => by unfold dv; rw [List.getElem?_take_of_lt hi])
    have e2 : ws t (t.length - 1) t.length = ws t (t.length - 1) (t.length - 1) + dv t (t.length - 1) := by
      have : t.length = (t.length - 1) + 1 := by omega
      rw [show ws t (t.length - 1) t.length = ws t (t.length - 1) ((t.length - 1) + 1) from by rw [← this], ws_step']
      unfold wt
      rw [Nat.sub_self]
      omega
    rw [e1, e2, Bool.eq_iff_iff, beq_iff_eq, beq_iff_eq]
    omega

theorem alld_set (l : List UInt8) (i : Nat) (x : UInt8) (h : alld l = true) (hx : dg x = true) : alld (l.set i x) = true := by
  unfold alld at h ⊢
  rw [List.all_eq_true] at h ⊢
  intro c hc
  rcases List.mem_or_eq_of_mem_set hc with h1 | h1
  · exact h c h1
  · rw [h1]; exact hx

theorem wt_13 (n i : Nat) : wt n i = 1 ∨ wt n i = 3 := by unfold wt; omega

/-- one digit changed: no ID -/
theorem vid_change (t : List UInt8) (i : Nat) (x : UInt8) (h : t.length = 8 ∨ t.length = 13) (hi : i < t.length) (hv : vid t = true) (hx : dg x = true) (hne : x.toNat - 48 ≠ dv t i) : vid (t.set i x) = false := by
  rw [vid_total t h, Bool.and_eq_true, beq_iff_eq] at hv
  have h9 := dv_le t i hv.1
  have hs := ws_set t (t.length - 1) i x hi t.length hi
  rw [vid_total _ (by simpa using h), List.length_set]
  have hx9 : x.toNat - 48 ≤ 9 := by unfold dg at hx; rw [Bool.and_eq_true, decide_eq_true_eq, decide_eq_true_eq] at hx; omega
  rw [Bool.and_eq_false_iff]
  right
  rw [beq_eq_false_iff_ne]
  have h0 := hv.2
  generalize ws (t.set i x) (t.length - 1) t.length = a at *
  generalize ws t (t.length - 1) t.length = b at *
  generalize x.toNat - 48 = y at *
  generalize dv t i = z at *
  rcases wt_13 (t.length - 1) i with e | e <;> rw [e] at hs <;> omega

/-- two neighbours exchanged: an ID just if they differ by 0 or 5 -/
theorem vid_swap (t : List UInt8) (i : Nat) (a b : UInt8) (h : t.length = 8 ∨ t.length = 13) (hi : i + 1 < t.length) (hv : vid t = true) (ha : t[i]? = some a) (hb : t[i + 1]? = some b) :
    vid ((t.set i b).set (i + 1) a) = (((a.toNat : Int) - (b.toNat : Int) == 0) || ((a.toNat : Int) - (b.toNat : Int) == 5) || ((a.toNat : Int) - (b.toNat : Int) == -5)) := by
  rw [vid_total t h, Bool.and_eq_true, beq_iff_eq] at hv
  have hall := hv.1
  have hda : dg a = true := (List.all_eq_true.1 hall) a (List.mem_of_getElem? ha)
  have hdb : dg b = true := (List.all_eq_true.1 hall) b (List.mem_of_getElem? hb)
  have e1 : dv t i = a.toNat - 48 := by unfold dv; rw [ha]; rfl
  have e2 : dv t (i + 1) = b.toNat - 48 := by unfold dv; rw [hb]; rfl
  have hs1 := ws_set t (t.length - 1) i b (by omega) t.length (by omega)
  have hs2 := ws_set (t.set i b) (t.length - 1) (i + 1) a (by simpa using hi) t.length hi
  rw [dv_set_other t i (i + 1) b (by omega)] at hs2
  rw [e1] at hs1
  rw [e2] at hs2
  have hw : (wt (t.length - 1) i = 1 ∧ wt (t.length - 1) (i + 1) = 3) ∨ (wt (t.length - 1) i = 3 ∧ wt (t.length - 1) (i + 1) = 1) := by unfold wt; omega
  rw [vid_total _ (by simpa using h), List.length_set, List.length_set, alld_set _ _ _ (alld_set _ _ _ hall hdb) hda, Bool.true_and]
  unfold dg at hda hdb
  rw [Bool.and_eq_true, decide_eq_true_eq, decide_eq_true_eq] at hda hdb
  have h0 := hv.2
  generalize ws ((t.set i b).set (i + 1) a) (t.length - 1) t.length = r at *
  generalize ws (t.set i b) (t.length - 1) t.length = q at *
  generalize ws t (t.length - 1) t.length = p at *
  generalize a.toNat = x at *
  generalize b.toNat = y at *
  rw [Bool.eq_iff_iff, Bool.or_eq_true, Bool.or_eq_true, beq_iff_eq, beq_iff_eq, beq_iff_eq, beq_iff_eq]
  rcases hw with ⟨f1, f2⟩ | ⟨f1, f2⟩ <;> rw [f1] at hs1 <;> rw [f2] at hs2 <;> omega

/-- the digits with their check digit are an ID -/
theorem vid_made (l : List UInt8) (h : l.length = 7 ∨ l.length = 12) (ha : alld l = true) (c : UInt8) (hc : (c.toNat : Int) = 48 + (cdv l : Int)) : vid (l ++ [c]) = true := by
  have hok : okd l = true := by
    unfold okd
    rw [ha, Bool.and_true, Bool.or_eq_true, beq_iff_eq, beq_iff_eq]
    exact h
  rw [vid_snoc l c h, hok, Bool.true_and, beq_iff_eq, hc]
  unfold cd
  rw [if_pos hok]
end Go.Proofs.YtjgbadopladmdaaDoor.Dig
