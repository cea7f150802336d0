/- The plain law of check digits: no Go in sight. -/
import Derived.Lib.SlTrimSet
namespace Go.Proofs.YtjgbadopladmdaaDoor.Dig

/-- a byte is a decimal digit -/
def dg (c : UInt8) : Bool := 48 ≤ c.toNat && c.toNat ≤ 57
def alld (l : List UInt8) : Bool := l.all dg
/-- the value of the digit at place i -/
def dv (l : List UInt8) (i : Nat) : Nat := (l[i]?.getD 48).toNat - 48
/-- the weighted sum of the first k digits of n -/
def ws (l : List UInt8) (n : Nat) : Nat → Nat
  | 0 => 0
  | k + 1 => ws l n k + (1 + 2 * ((n - k) % 2)) * dv l k
def cdv (l : List UInt8) : Nat := (10 - ws l l.length l.length % 10) % 10
def okd (l : List UInt8) : Bool := (l.length == 7 || l.length == 12) && alld l
/-- the check digit, 0 where there is none -/
def cd (l : List UInt8) : Int := if okd l then (cdv l : Int) else 0
def vid (l : List UInt8) : Bool := (l.length == 8 || l.length == 13) && alld l && (cdv (l.take (l.length - 1)) == dv l (l.length - 1))

def digs : List UInt8 := [48, 49, 50, 51, 52, 53, 54, 55, 56, 57]

theorem digs_contains (c : UInt8) : digs.contains c = dg c := by
  have h : ∀ n : Fin 256, digs.contains (UInt8.ofNat n.val) = dg (UInt8.ofNat n.val) := by decide +kernel
  have := h ⟨c.toNat, c.toNat_lt⟩
  simpa using this

theorem dropWhile_nil {α : Type} (p : α → Bool) (l : List α) : l.dropWhile p = [] ↔ l.all p = true := by
  induction l with
  | nil => simp
  | cons a t ih =>
    by_cases h : p a = true
    · rw [List.dropWhile_cons_of_pos h, ih]; simp [h]
    · rw [List.dropWhile_cons_of_neg h]; simp [h]

theorem trimRight_all (l : List UInt8) (h : l.all (digs.contains ·) = true) : Lib.trimRightS l digs = [] := by
  unfold Lib.trimRightS
  have : l.reverse.dropWhile (digs.contains ·) = [] := (dropWhile_nil _ _).2 (by simpa using h)
  rw [this]; rfl

theorem dropWhile_all {α : Type} (p : α → Bool) (l : List α) : (l.dropWhile p).all p = l.all p := by
  induction l with
  | nil => rfl
  | cons a t ih =>
    by_cases h : p a = true
    · rw [List.dropWhile_cons_of_pos h, ih]; simp [h]
    · rw [List.dropWhile_cons_of_neg h]

theorem trim_nil (l : List UInt8) : (Lib.trimS l digs).isEmpty = alld l := by
  have e : (fun c => digs.contains c) = dg := funext digs_contains
  have e1 : ∀ m : List UInt8, m.all (fun c => digs.contains c) = alld m := fun m => by unfold alld; rw [e]
  rw [Bool.eq_iff_iff, List.isEmpty_iff]
  unfold Lib.trimS Lib.trimLeftS
  rw [dropWhile_nil, e1]
  unfold Lib.trimRightS alld
  rw [List.all_reverse]
  have := dropWhile_all dg l.reverse
  rw [e, this, List.all_reverse]

theorem dv_le (l : List UInt8) (i : Nat) (h : alld l = true) : dv l i ≤ 9 := by
  unfold dv
  by_cases hi : i < l.length
  · rw [List.getElem?_eq_getElem hi, Option.getD_some]
    have := (List.all_eq_true.1 h) _ (List.getElem_mem hi)
    simp [dg] at this; omega
  · rw [List.getElem?_eq_none (by omega)]; decide

theorem ws_le (l : List UInt8) (n k : Nat) (h : alld l = true) : ws l n k ≤ 27 * k := by
  induction k with
  | zero => simp [ws]
  | succ k ih =>
    have h1 := dv_le l k h
    have h2 : (1 + 2 * ((n - k) % 2)) ≤ 3 := by omega
    have h3 : (1 + 2 * ((n - k) % 2)) * dv l k ≤ 3 * 9 := Nat.mul_le_mul h2 h1
    simp only [ws]; omega

theorem ws_le_take (l : List UInt8) (n m : Nat) (h : alld (l.take m) = true) : ∀ k, k ≤ m → ws l n k ≤ 27 * k := by
  intro k
  induction k with
  | zero => intro _; simp [ws]
  | succ k ih =>
    intro hk
    have h0 := ih (by omega)
    have h1 := dv_le (l.take m) k h
    have e : dv (l.take m) k = dv l k := by unfold dv; rw [List.getElem?_take_of_lt (by omega)]
    rw [e] at h1
    have h2 : (1 + 2 * ((n - k) % 2)) ≤ 3 := by omega
    have h3 : (1 + 2 * ((n - k) % 2)) * dv l k ≤ 3 * 9 := Nat.mul_le_mul h2 h1
    simp only [ws]; omega

theorem alld_take_succ (l : List UInt8) (k : Nat) (h : alld (l.take k) = true) (hd : ∀ c, l[k]? = some c → dg c = true) : alld (l.take (k + 1)) = true := by
  rw [List.take_add_one]
  unfold alld at h ⊢
  rw [List.all_append, h]
  cases hc : l[k]? with
  | none => simp
  | some c => simp [hd c hc]

theorem not_alld (l : List UInt8) (k : Nat) (c : UInt8) (hc : l[k]? = some c) (h : dg c = false) : alld l = false := by
  cases hh : alld l with
  | false => rfl
  | true =>
    have := (List.all_eq_true.1 hh) c (List.mem_of_getElem? hc)
    rw [h] at this; cases this

theorem cdv_le (l : List UInt8) : cdv l ≤ 9 := by unfold cdv; omega
theorem vid_snoc (t : List UInt8) (c : UInt8) (h : t.length = 7 ∨ t.length = 12) : vid (t ++ [c]) = (okd t && ((c.toNat : Int) == 48 + cd t)) := by
  have hl : (t ++ [c]).length = t.length + 1 := by simp
  have htk : (t ++ [c]).take t.length = t := by simp
  have hdv : dv (t ++ [c]) t.length = c.toNat - 48 := by unfold dv; simp
  have hlen : ((t.length + 1 == 8) || (t.length + 1 == 13)) = true := by rcases h with h | h <;> rw [h] <;> rfl
  have hlen2 : ((t.length == 7) || (t.length == 12)) = true := by rcases h with h | h <;> rw [h] <;> rfl
  have ha : alld (t ++ [c]) = (alld t && dg c) := by unfold alld; rw [List.all_append]; simp
  have hc := cdv_le t
  unfold vid okd cd okd
  rw [hl, Nat.add_sub_cancel, htk, hdv, hlen, hlen2, ha]
  simp only [Bool.true_and]
  cases hat : alld t
  · simp
  · simp only [Bool.true_and, if_true]
    rw [Bool.eq_iff_iff, Bool.and_eq_true, beq_iff_eq, beq_iff_eq]
    unfold dg
    rw [Bool.and_eq_true, decide_eq_true_eq, decide_eq_true_eq]
    omega
end Go.Proofs.YtjgbadopladmdaaDoor.Dig
