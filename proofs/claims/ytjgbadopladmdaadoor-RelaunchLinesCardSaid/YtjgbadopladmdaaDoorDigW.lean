/- The walks of product.digits, product.CheckDigit, product.ValidID and of the reference's CheckDigit and ValidID: each returns what the plain law computes; what was there at the call stays. -/
import Derived.Test.YtjgbadopladmdaaDoorShelfTrim
import Derived.Test.YtjgbadopladmdaaDoorDigP
import Derived.Test.YtjgbadopladmdaaDoorMem
import Derived.WalkKit
import Derived.WalkLawsBesides
import Derived.WalkSpells
import Derived.Lib.Hide
import Derived.Outline
import Derived.Handy
import Derived.Deep.Light
import Derived.Deep.QuietTactic
import Derived.BigQuiet
namespace Go.Proofs.YtjgbadopladmdaaDoor
open Go.RowKit Go.Shelf

theorem trim_digs (s : ByteArray) (w : World) (hs : s.size ≤ 1000000) :
    Calls Tryd.prog 72 #[.string s, .string ⟨#[48, 49, 50, 51, 52, 53, 54, 55, 56, 57]⟩] w fun e w' => e = .returned (.string ⟨(Lib.trimS s.data.toList Dig.digs).toArray⟩) ∧ Below w.heap.size w w' :=
  Any.strings_Trim_laid Tryd.lays160 (by kernel_rfl) s ⟨#[48, 49, 50, 51, 52, 53, 54, 55, 56, 57]⟩ w (by omega) (by decide) (ascii_of_all (by decide))

theorem ext_take (s : ByteArray) (k : Nat) : (s.extract 0 k).data.toList = s.data.toList.take k := by simp
theorem bytes_isEmpty (l : List UInt8) : (⟨l.toArray⟩ : ByteArray).toList.isEmpty = l.isEmpty := by
  rw [Lib.toList_data]

set_option maxHeartbeats 400000 in
theorem digits_yes (s : ByteArray) (a b : Int) (w : World) (hs : s.size ≤ 1000000) (h : (s.size : Int) = a ∨ (s.size : Int) = b) :
    Calls Tryd.prog 48 #[.string s, .int .i64 a, .int .i64 b] w fun e w' => e = .returned (.bool (Dig.alld s.data.toList)) ∧ Below w.heap.size w w' := by
  have hcon := trim_digs s w hs
  rw [← Dig.trim_nil s.data.toList]
  rw [← bytes_isEmpty]
  generalize (⟨(Lib.trimS s.data.toList Dig.digs).toArray⟩ : ByteArray) = r at hcon
  go_enter Tryd.func48, Tryd.ntmps48
  go_wp2_with (go_at_call 72; refine hcon.mono ?_; rintro e w' ⟨rfl, hB⟩)
  all_goals (go_ret; exact ⟨rfl, hB⟩)

set_option maxHeartbeats 400000 in
theorem digits_no (s : ByteArray) (a b : Int) (w : World) (h1 : ¬ (s.size : Int) = a) (h2 : ¬ (s.size : Int) = b) :
    Calls Tryd.prog 48 #[.string s, .int .i64 a, .int .i64 b] w fun e w' => e = .returned (.bool false) ∧ Below w.heap.size w w' := by
  go_enter Tryd.func48, Tryd.ntmps48
  go_wp2
  go_ret
  exact ⟨rfl, Below.refl _ _⟩

theorem ret_ib {a c : Int} {b d : Bool} (h : a = c) (h' : b = d) : Ending.returned (.tuple #[.int .i64 a, .bool b]) = Ending.returned (.tuple #[.int .i64 c, .bool d]) := by rw [h, h']
theorem ret_b {b d : Bool} (h' : b = d) : Ending.returned (.bool b) = Ending.returned (.bool d) := by rw [h']

theorem s_get (s : ByteArray) (k : Nat) (hk : k < s.size) : (s[k]'hk).toNat = (s.data.toList[k]?.getD 48).toNat := by
  rw [List.getElem?_eq_getElem (by simpa using hk)]; rfl

theorem s_dg (s : ByteArray) (hd : Dig.alld s.data.toList = true) (k : Nat) (hk : k < s.size) : 48 ≤ (s[k]'hk).toNat ∧ (s[k]'hk).toNat ≤ 57 := by
  have h1 := Dig.dv_le s.data.toList k hd
  have := (List.all_eq_true.1 hd) (s.data.toList[k]'(by simpa using hk)) (List.getElem_mem _)
  have e : s.data.toList[k]'(by simpa using hk) = s[k]'hk := rfl
  rw [e] at this
  simpa [Dig.dg] using this

theorem ws_step (s : ByteArray) (n k : Nat) (hk : k < s.size) (hn : n ≤ 12) (hkn : k ≤ n) (h1 : 48 ≤ (s[k]'hk).toNat ∧ (s[k]'hk).toNat ≤ 57) (hb : Dig.ws s.data.toList n k ≤ 27 * k) :
    wrap64 (↑(Dig.ws s.data.toList n k) + wrap64 ((1 + 2 * (((n : Int) - (k : Int)) % 2)) * (((s[k]'hk).toNat : Int) - 48))) = ((Dig.ws s.data.toList n (k + 1) : Nat) : Int) := by
  have e : Dig.dv s.data.toList k = (s[k]'hk).toNat - 48 := by unfold Dig.dv; rw [s_get s k hk]
  simp only [Dig.ws, e]
  generalize (s[k]'hk).toNat = c at h1 ⊢
  generalize Dig.ws s.data.toList n k = x at hb ⊢
  unfold wrap64
  rcases Nat.mod_two_eq_zero_or_one (n - k) with h | h
  · have e2 : ((n : Int) - (k : Int)) % 2 = 0 := by omega
    rw [h, e2]; omega
  · have e2 : ((n : Int) - (k : Int)) % 2 = 1 := by omega
    rw [h, e2]; omega

set_option maxHeartbeats 400000 in
theorem check_yes (s : ByteArray) (w : World) (h : s.size = 7 ∨ s.size = 12) (hd : Dig.alld s.data.toList = true) :
    Calls Tryd.prog 14 #[.string s] w fun e w' => e = .returned (.tuple #[.int .i64 (Dig.cdv s.data.toList), .bool true]) ∧ Below w.heap.size w w' := by
  have hcon := digits_yes s 7 12 w (by omega) (by omega)
  rw [hd] at hcon
  have hlen : s.data.toList.length = s.size := by simp
  have H : Hid (s.data.toList.length = s.size) := hlen
  have Hd : Hid (Dig.alld s.data.toList = true) := hd
  have hs1 : s.size ≤ 12 := by omega
  clear hlen hd h
  go_enter Tryd.func14, Tryd.ntmps14
  go_wp2_with (go_at_call 48; refine hcon.mono ?_; rintro e w' ⟨rfl, hB⟩)
  go_loop [4, 12] (fun t i => ∃ k : Nat, k ≤ s.size ∧ i = .int .i64 k ∧ t = .int .i64 (Dig.ws s.data.toList s.size k)) (fun _ i => s.size - (intOf i).toNat)
  case atStart => exact ⟨0, Nat.zero_le _, rfl, rfl⟩
  case round =>
    obtain ⟨k, hk, rfl, rfl⟩ := hrel
    have hb : Dig.ws s.data.toList s.size k ≤ 27 * k := Dig.ws_le _ _ _ Hd.out
    by_cases hlt : k < s.size
    · obtain ⟨h1a, h1b⟩ := s_dg s Hd.out k hlt
      go_wp2
      go_round
      case rel => exact ⟨k + 1, by omega, by go_num, by rw [ws_step s s.size k hlt hs1 hk ⟨h1a, h1b⟩ hb]⟩
      case measure => simp [intOf]; omega
    · go_wp2
      go_ret2
      refine ⟨?_, hB⟩
      have e : k = s.size := by omega
      subst e
      exact ret_ib (by have := H.out; unfold Dig.cdv; rw [this]; omega) rfl

set_option maxHeartbeats 400000 in
theorem check_no (s : ByteArray) (w : World) (hs : s.size ≤ 1000000) (hd : Dig.okd s.data.toList = false) :
    Calls Tryd.prog 14 #[.string s] w fun e w' => e = .returned (.tuple #[.int .i64 0, .bool false]) ∧ Below w.heap.size w w' := by
  have hcon : Calls Tryd.prog 48 #[.string s, .int .i64 7, .int .i64 12] w fun e w' => e = .returned (.bool false) ∧ Below w.heap.size w w' := by
    by_cases h : s.size = 7 ∨ s.size = 12
    · have hf : Dig.alld s.data.toList = false := by
        unfold Dig.okd at hd
        have : s.data.toList.length = s.size := by simp
        rw [this] at hd
        rcases h with h | h <;> simpa [h] using hd
      have := digits_yes s 7 12 w hs (by omega)
      rwa [hf] at this
    · exact digits_no s 7 12 w (by omega) (by omega)
  go_enter Tryd.func14, Tryd.ntmps14
  go_wp2_with (go_at_call 48; refine hcon.mono ?_; rintro e w' ⟨rfl, hB⟩)
  go_ret2
  exact ⟨rfl, hB⟩

/-- product.CheckDigit of any string -/
theorem check_any (s : ByteArray) (w : World) (hs : s.size ≤ 1000000) :
    Calls Tryd.prog 14 #[.string s] w fun e w' => e = .returned (.tuple #[.int .i64 (Dig.cd s.data.toList), .bool (Dig.okd s.data.toList)]) ∧ Below w.heap.size w w' := by
  cases h : Dig.okd s.data.toList
  · have e : Dig.cd s.data.toList = 0 := by simp [Dig.cd, h]
    rw [e]
    exact check_no s w hs h
  · have e : Dig.cd s.data.toList = Dig.cdv s.data.toList := by simp [Dig.cd, h]
    rw [e]
    simp only [Dig.okd, Bool.and_eq_true, Bool.or_eq_true, beq_iff_eq] at h
    have hl : s.data.toList.length = s.size := by simp
    rw [hl] at h
    exact check_yes s w h.1 h.2

set_option maxHeartbeats 400000 in
theorem valid_no (s : ByteArray) (w : World) (hs : s.size ≤ 1000000) (hd : ((s.data.toList.length == 8 || s.data.toList.length == 13) && Dig.alld s.data.toList) = false) :
    Calls Tryd.prog 16 #[.string s] w fun e w' => e = .returned (.bool false) ∧ Below w.heap.size w w' := by
  have hcon : Calls Tryd.prog 48 #[.string s, .int .i64 8, .int .i64 13] w fun e w' => e = .returned (.bool false) ∧ Below w.heap.size w w' := by
    by_cases h : s.size = 8 ∨ s.size = 13
    · have hf : Dig.alld s.data.toList = false := by
        have : s.data.toList.length = s.size := by simp
        rw [this] at hd
        rcases h with h | h <;> simpa [h] using hd
      have := digits_yes s 8 13 w hs (by omega)
      rwa [hf] at this
    · exact digits_no s 8 13 w (by omega) (by omega)
  go_enter Tryd.func16, Tryd.ntmps16
  go_wp2_with (go_at_call 48; refine hcon.mono ?_; rintro e w' ⟨rfl, hB⟩)
  go_ret
  exact ⟨rfl, hB⟩

set_option maxHeartbeats 400000 in
theorem valid_yes (s : ByteArray) (w : World) (h : s.size = 8 ∨ s.size = 13) (hd : Dig.alld s.data.toList = true) :
    Calls Tryd.prog 16 #[.string s] w fun e w' => e = .returned (.bool (Dig.cdv (s.data.toList.take (s.size - 1)) == Dig.dv s.data.toList (s.size - 1))) ∧ Below w.heap.size w w' := by
  have hcon := digits_yes s 8 13 w (by omega) (by omega)
  rw [hd] at hcon
  have hs1 : s.size ≤ 13 := by omega
  have hs0 : 8 ≤ s.size := by omega
  have hlast : s.size - 1 < s.size := by omega
  obtain ⟨h1a, h1b⟩ := s_dg s hd (s.size - 1) hlast
  have hc2 : ∀ w', Calls Tryd.prog 14 #[.string (s.extract 0 (s.size - 1))] w' fun e w'' => e = .returned (.tuple #[.int .i64 (Dig.cdv (s.data.toList.take (s.size - 1))), .bool true]) ∧ Below w'.heap.size w' w'' := by
    intro w'
    have e : (s.extract 0 (s.size - 1)).data.toList = s.data.toList.take (s.size - 1) := ext_take _ _
    have := check_yes (s.extract 0 (s.size - 1)) w' (by simp; omega) (by rw [e]; unfold Dig.alld at hd ⊢; rw [List.all_eq_true] at hd ⊢; exact fun x hx => hd x (List.mem_of_mem_take hx))
    rwa [e] at this
  have HC := hide hc2
  clear hc2 hd h
  go_enter Tryd.func16, Tryd.ntmps16
  go_wp2_with (first | (go_at_call 48; refine hcon.mono ?_; rintro e w' ⟨rfl, hB⟩) | (go_at_call 14; refine (HC.out _).mono ?_; rintro e w'' ⟨rfl, hB2⟩))
  go_ret
  refine ⟨ret_b ?_, below_trans hB hB2⟩
  rw [Bool.eq_iff_iff, beq_iff_eq, beq_iff_eq]
  unfold Dig.dv
  rw [← s_get s (s.size - 1) hlast]
  omega

/-- product.ValidID of any string -/
theorem valid_any (s : ByteArray) (w : World) (hs : s.size ≤ 1000000) :
    Calls Tryd.prog 16 #[.string s] w fun e w' => e = .returned (.bool (Dig.vid s.data.toList)) ∧ Below w.heap.size w w' := by
  have hl : s.data.toList.length = s.size := by simp
  cases h : (s.data.toList.length == 8 || s.data.toList.length == 13) && Dig.alld s.data.toList
  · have e : Dig.vid s.data.toList = false := by unfold Dig.vid; rw [h]; rfl
    rw [e]
    exact valid_no s w hs h
  · have e : Dig.vid s.data.toList = (Dig.cdv (s.data.toList.take (s.size - 1)) == Dig.dv s.data.toList (s.size - 1)) := by unfold Dig.vid; rw [h, hl, Bool.true_and]
    rw [e]
    simp only [Bool.and_eq_true, Bool.or_eq_true, beq_iff_eq] at h
    rw [hl] at h
    exact valid_yes s w h.1 h.2

set_option maxHeartbeats 400000 in
theorem rcheck_short (s : ByteArray) (w : World) (h7 : ¬ s.size = 7) (h12 : ¬ s.size = 12) :
    Calls Tryd.prog 15 #[.string s] w fun e w' => e = .returned (.tuple #[.int .i64 0, .bool false]) ∧ w = w' := by
  have a1 : ((s.size : Int) != 7) = true := by rw [bne_iff_ne]; omega
  have a2 : ((s.size : Int) != 12) = true := by rw [bne_iff_ne]; omega
  clear h7 h12
  go_enter Tryd.func15, Tryd.ntmps15
  go_wp2
  go_ret2
  exact ⟨rfl, rfl⟩

theorem rws_step (s : ByteArray) (n k : Nat) (hk : k < s.size) (hkn : k < n) (h1 : 48 ≤ (s[k]'hk).toNat) :
    ((((n : Int) - (k : Int)) % 2 == 1) = true → (↑(Dig.ws s.data.toList n k) + 3 * (((s[k]'hk).toNat : Int) - 48)) = ((Dig.ws s.data.toList n (k + 1) : Nat) : Int)) ∧
    ((((n : Int) - (k : Int)) % 2 == 1) = false → (↑(Dig.ws s.data.toList n k) + (((s[k]'hk).toNat : Int) - 48)) = ((Dig.ws s.data.toList n (k + 1) : Nat) : Int)) := by
  have e : Dig.dv s.data.toList k = (s[k]'hk).toNat - 48 := by unfold Dig.dv; rw [s_get s k hk]
  simp only [Dig.ws, e]
  generalize (s[k]'hk).toNat = c at h1 ⊢
  generalize Dig.ws s.data.toList n k = x
  rw [beq_iff_eq, beq_eq_false_iff_ne]
  rcases Nat.mod_two_eq_zero_or_one (n - k) with h | h <;> rw [h] <;> constructor <;> intro h3 <;> omega

theorem bad_digit (s : ByteArray) (k : Nat) (hk : k < s.size) (h : (s[k]'hk).toNat < 48 ∨ 57 < (s[k]'hk).toNat) : Dig.okd s.data.toList = false ∧ Dig.cd s.data.toList = 0 := by
  have h1 : Dig.alld s.data.toList = false := by
    refine Dig.not_alld _ k (s[k]'hk) (List.getElem?_eq_getElem (by simpa using hk)) ?_
    unfold Dig.dg
    rw [Bool.and_eq_false_iff, decide_eq_false_iff_not, decide_eq_false_iff_not]
    omega
  have h2 : Dig.okd s.data.toList = false := by unfold Dig.okd; rw [h1, Bool.and_false]
  exact ⟨h2, by unfold Dig.cd; rw [h2]; rfl⟩

theorem good_next (s : ByteArray) (k : Nat) (hk : k < s.size) (h1 : ¬ (s[k]'hk).toNat < 48) (h2 : ¬ 57 < (s[k]'hk).toNat) (h : Dig.alld (s.data.toList.take k) = true) : Dig.alld (s.data.toList.take (k + 1)) = true := by
  refine Dig.alld_take_succ _ k h (fun c hc => ?_)
  have e : s.data.toList[k]? = some (s[k]'hk) := List.getElem?_eq_getElem (by simpa using hk)
  rw [e] at hc
  obtain rfl := Option.some.inj hc
  unfold Dig.dg
  rw [Bool.and_eq_true, decide_eq_true_eq, decide_eq_true_eq]
  omega

theorem good_all (s : ByteArray) (h : s.size = 7 ∨ s.size = 12) (hd : Dig.alld (s.data.toList.take s.size) = true) : Dig.okd s.data.toList = true ∧ Dig.cd s.data.toList = -(((Dig.ws s.data.toList s.size s.size : Nat) : Int) % 10) % 10 := by
  have hl : s.data.toList.length = s.size := by simp
  rw [List.take_of_length_le (by omega)] at hd
  have h2 : Dig.okd s.data.toList = true := by
    unfold Dig.okd
    rw [hd, hl, Bool.and_true, Bool.or_eq_true, beq_iff_eq, beq_iff_eq]
    exact h
  refine ⟨h2, ?_⟩
  unfold Dig.cd Dig.cdv
  rw [if_pos h2, hl]
  omega

set_option maxHeartbeats 1000000 in
theorem rcheck_long (s : ByteArray) (w : World) (h : s.size = 7 ∨ s.size = 12) :
    Calls Tryd.prog 15 #[.string s] w fun e w' => e = .returned (.tuple #[.int .i64 (Dig.cd s.data.toList), .bool (Dig.okd s.data.toList)]) ∧ w = w' := by
  have H : Hid (s.data.toList.length = s.size) := by show s.data.toList.length = s.size; simp
  have hs1 : s.size ≤ 12 := by omega
  have hs0 : 1 ≤ s.size := by omega
  have Hs : Hid (s.size = 7 ∨ s.size = 12) := h
  have hg : ((s.size : Int) != 7) = false ∨ (((s.size : Int) != 7) = true ∧ ((s.size : Int) != 12) = false) := by
    rcases h with h | h
    · left; rw [h]; rfl
    · right; rw [h]; exact ⟨rfl, rfl⟩
  clear h
  rcases hg with hg | ⟨hg, hg2⟩
  all_goals
    go_enter Tryd.func15, Tryd.ntmps15
    go_wp2
    go_loop [4, 17] (fun t i => ∃ k : Nat, k ≤ s.size ∧ i = .int .i64 k ∧ t = .int .i64 (Dig.ws s.data.toList s.size k) ∧ Hid (Dig.alld (s.data.toList.take k) = true)) (fun _ i => s.size - (intOf i).toNat)
    case atStart => exact ⟨0, Nat.zero_le _, rfl, rfl, by show Dig.alld (List.take 0 _) = true; rfl⟩
    case round =>
      obtain ⟨k, hk, rfl, rfl, Hd⟩ := hrel
      have hb : Dig.ws s.data.toList s.size k ≤ 27 * k := Dig.ws_le_take _ _ k Hd.out k (Nat.le_refl _)
      by_cases hlt : k < s.size
      · by_cases h48 : (s[k]'hlt).toNat < 48
        · go_wp2
          go_ret2
          obtain ⟨q1, q2⟩ := bad_digit s k hlt (.inl h48)
          exact ⟨ret_ib q2.symm q1.symm, rfl⟩
        · by_cases h57 : 57 < (s[k]'hlt).toNat
          · go_wp2
            go_ret2
            obtain ⟨q1, q2⟩ := bad_digit s k hlt (.inr h57)
            exact ⟨ret_ib q2.symm q1.symm, rfl⟩
          · obtain ⟨q1, q2⟩ := rws_step s s.size k hlt hlt (by omega)
            have Q1 := hide q1
            have Q2 := hide q2
            clear q1 q2
            go_wp2
            all_goals go_round
            case rel => exact ⟨k + 1, by omega, by go_num, by rw [Q1.out (by assumption)], good_next s k hlt h48 h57 Hd.out⟩
            case measure => simp [intOf]; omega
            case rel => exact ⟨k + 1, by omega, by go_num, by rw [Q2.out (by assumption)], good_next s k hlt h48 h57 Hd.out⟩
            case measure => simp [intOf]; omega
      · have e : k = s.size := by omega
        subst e
        go_wp2
        go_ret2
        obtain ⟨q1, q2⟩ := good_all s Hs.out Hd.out
        exact ⟨ret_ib q2.symm q1.symm, rfl⟩

/-- the reference's CheckDigit of any string -/
theorem rcheck_any (s : ByteArray) (w : World) :
    Calls Tryd.prog 15 #[.string s] w fun e w' => e = .returned (.tuple #[.int .i64 (Dig.cd s.data.toList), .bool (Dig.okd s.data.toList)]) ∧ w = w' := by
  have hl : s.data.toList.length = s.size := by simp
  by_cases h7 : s.size = 7
  · exact rcheck_long s w (.inl h7)
  · by_cases h12 : s.size = 12
    · exact rcheck_long s w (.inr h12)
    · have h2 : Dig.okd s.data.toList = false := by
        unfold Dig.okd
        rw [hl, beq_eq_false_iff_ne.2 h7, beq_eq_false_iff_ne.2 h12]; rfl
      have h3 : Dig.cd s.data.toList = 0 := by unfold Dig.cd; rw [h2]; rfl
      rw [h2, h3]
      exact rcheck_short s w h7 h12

theorem last_split (s : ByteArray) (h : s.size - 1 < s.size) : s.data.toList = s.data.toList.take (s.size - 1) ++ [s[s.size - 1]'h] := by
  have hl : s.data.toList.length = s.size := by simp
  have e : s.data.toList.take (s.size - 1 + 1) = s.data.toList := List.take_of_length_le (by omega)
  rw [← e, List.take_succ_eq_append_getElem (by omega), List.take_append_of_le_length (by rw [List.length_take]; omega), List.take_take, Nat.min_self]
  rfl

set_option maxHeartbeats 400000 in
theorem rvalid_short (s : ByteArray) (w : World) (h7 : ¬ s.size = 8) (h12 : ¬ s.size = 13) :
    Calls Tryd.prog 17 #[.string s] w fun e w' => e = .returned (.bool false) ∧ w = w' := by
  have a1 : ((s.size : Int) != 8) = true := by rw [bne_iff_ne]; omega
  have a2 : ((s.size : Int) != 13) = true := by rw [bne_iff_ne]; omega
  clear h7 h12
  go_enter Tryd.func17, Tryd.ntmps17
  go_wp2
  go_ret
  exact ⟨rfl, rfl⟩

set_option maxHeartbeats 1000000 in
theorem rvalid_long (s : ByteArray) (w : World) (h : s.size = 8 ∨ s.size = 13) :
    Calls Tryd.prog 17 #[.string s] w fun e w' => e = .returned (.bool (Dig.vid s.data.toList)) ∧ w = w' := by
  have hlast : s.size - 1 < s.size := by omega
  have hs1 : s.size ≤ 13 := by omega
  have hs0 : 8 ≤ s.size := by omega
  have hg : ((s.size : Int) != 8) = false ∨ (((s.size : Int) != 8) = true ∧ ((s.size : Int) != 13) = false) := by
    rcases h with h | h
    · left; rw [h]; rfl
    · right; rw [h]; exact ⟨rfl, rfl⟩
  have hc := rcheck_any (s.extract 0 (s.size - 1)) w
  rw [ext_take] at hc
  have hcd : 0 ≤ Dig.cd (s.data.toList.take (s.size - 1)) ∧ Dig.cd (s.data.toList.take (s.size - 1)) ≤ 9 := by
    have := Dig.cdv_le (s.data.toList.take (s.size - 1))
    unfold Dig.cd
    split <;> omega
  have hvid : Hid (Dig.vid s.data.toList = (Dig.okd (s.data.toList.take (s.size - 1)) && (((s[s.size - 1]'hlast).toNat : Int) == 48 + Dig.cd (s.data.toList.take (s.size - 1))))) := by
    have hlt : (s.data.toList.take (s.size - 1)).length = s.size - 1 := by rw [List.length_take]; have : s.data.toList.length = s.size := by simp
                                                                           omega
    have hv := Dig.vid_snoc (s.data.toList.take (s.size - 1)) (s[s.size - 1]'hlast) (by omega)
    rw [← last_split s hlast] at hv
    exact hv
  clear h
  generalize Dig.cd (s.data.toList.take (s.size - 1)) = d at *
  obtain ⟨d0, d9⟩ := hcd
  have HC := hide hc
  clear hc
  generalize hok : Dig.okd (s.data.toList.take (s.size - 1)) = ok at *
  clear hok
  rcases hg with hg | ⟨hg, hg2⟩
  all_goals
    cases ok
    all_goals
      go_enter Tryd.func17, Tryd.ntmps17
      go_wp2_with (go_at_call 15; refine HC.out.mono ?_; rintro e w' ⟨rfl, rfl⟩)
      go_ret
      exact ⟨ret_b (by rw [hvid.out]; simp), rfl⟩

/-- the reference's ValidID of any string -/
theorem rvalid_any (s : ByteArray) (w : World) :
    Calls Tryd.prog 17 #[.string s] w fun e w' => e = .returned (.bool (Dig.vid s.data.toList)) ∧ w = w' := by
  have hl : s.data.toList.length = s.size := by simp
  by_cases h7 : s.size = 8
  · exact rvalid_long s w (.inl h7)
  · by_cases h12 : s.size = 13
    · exact rvalid_long s w (.inr h12)
    · have h2 : Dig.vid s.data.toList = false := by
        unfold Dig.vid
        rw [hl, beq_eq_false_iff_ne.2 h7, beq_eq_false_iff_ne.2 h12]; rfl
      rw [h2]
      exact rvalid_short s w h7 h12

set_option maxHeartbeats 400000 in
/-- the sanity check of law09 -/
theorem awake_any (w : World) : Calls Tryd.prog 18 #[] w fun e w' => e = .returned (.bool true) ∧ Below w.heap.size w w' := by
  have h1 : ∀ w, Calls Tryd.prog 14 #[.string ⟨#[52, 48, 48, 54, 51, 56, 49, 51, 51, 51, 57, 51]⟩] w fun e w' => e = .returned (.tuple #[.int .i64 1, .bool true]) ∧ Below w.heap.size w w' := fun w => by
    have := check_any ⟨#[52, 48, 48, 54, 51, 56, 49, 51, 51, 51, 57, 51]⟩ w (by decide)
    have e1 : Dig.cd [52, 48, 48, 54, 51, 56, 49, 51, 51, 51, 57, 51] = 1 := by decide +kernel
    have e2 : Dig.okd [52, 48, 48, 54, 51, 56, 49, 51, 51, 51, 57, 51] = true := by decide +kernel
    rw [show ((⟨#[52, 48, 48, 54, 51, 56, 49, 51, 51, 51, 57, 51]⟩ : ByteArray).data.toList) = [52, 48, 48, 54, 51, 56, 49, 51, 51, 51, 57, 51] from rfl, e1, e2] at this
    exact this
  have h2 : ∀ w, Calls Tryd.prog 16 #[.string ⟨#[57, 54, 51, 56, 53, 48, 55, 52]⟩] w fun e w' => e = .returned (.bool true) ∧ Below w.heap.size w w' := fun w => by
    have := valid_any ⟨#[57, 54, 51, 56, 53, 48, 55, 52]⟩ w (by decide)
    have e1 : Dig.vid [57, 54, 51, 56, 53, 48, 55, 52] = true := by decide +kernel
    rw [show ((⟨#[57, 54, 51, 56, 53, 48, 55, 52]⟩ : ByteArray).data.toList) = [57, 54, 51, 56, 53, 48, 55, 52] from rfl, e1] at this
    exact this
  have H1 := hide h1
  have H2 := hide h2
  clear h1 h2
  go_enter Tryd.func18, Tryd.ntmps18
  go_wp2_with (first | (go_at_call 14; refine (H1.out _).mono ?_; rintro e w' ⟨rfl, hB⟩) | (go_at_call 16; refine (H2.out _).mono ?_; rintro e w'' ⟨rfl, hB2⟩))
  go_ret
  exact ⟨rfl, below_trans hB hB2⟩
end Go.Proofs.YtjgbadopladmdaaDoor
