/- priceofficemake.ID: the walk; the IDs are valid and differ. -/
import Derived.Test.YtjgbadopladmdaaDoorDigW
import Derived.Test.YtjgbadopladmdaaDoorDigQ
import Derived.Test.YtjgbadopladmdaaDoorTapeW
namespace Go.Proofs.YtjgbadopladmdaaDoor
open Go.RowKit

/-- the digit of a number's last place, as a byte -/
def dgt (x : Int) : UInt8 := UInt8.ofNat (48 + x % 10).toNat
theorem dgt_nat (x : Int) : ((dgt x).toNat : Int) = 48 + x % 10 := by
  unfold dgt
  rw [UInt8.toNat_ofNat']
  have := Int.emod_nonneg x (show (10 : Int) ≠ 0 by omega)
  have := Int.emod_lt_of_pos x (show (0 : Int) < 10 by omega)
  omega
theorem dgt_dg (x : Int) : Dig.dg (dgt x) = true := by
  have h := dgt_nat x
  have := Int.emod_nonneg x (show (10 : Int) ≠ 0 by omega)
  have := Int.emod_lt_of_pos x (show (0 : Int) < 10 by omega)
  unfold Dig.dg
  rw [Bool.and_eq_true, decide_eq_true_eq, decide_eq_true_eq]
  omega
/-- the seven digits of the m-th ID -/
def idl (m : Int) : List UInt8 :=
  [dgt ((1000000 + m) / 10 / 10 / 10 / 10 / 10 / 10), dgt ((1000000 + m) / 10 / 10 / 10 / 10 / 10), dgt ((1000000 + m) / 10 / 10 / 10 / 10), dgt ((1000000 + m) / 10 / 10 / 10), dgt ((1000000 + m) / 10 / 10), dgt ((1000000 + m) / 10), dgt (1000000 + m)]
def idc (m : Int) : UInt8 := UInt8.ofNat (48 + Dig.cdv (idl m))
/-- the m-th ID -/
def idS (m : Int) : ByteArray := ⟨(idl m ++ [idc m]).toArray⟩

theorem idl_alld (m : Int) : Dig.alld (idl m) = true := by
  unfold Dig.alld idl
  simp only [List.all_cons, List.all_nil, dgt_dg, Bool.and_true]
theorem idc_nat (m : Int) : ((idc m).toNat : Int) = 48 + (Dig.cdv (idl m) : Int) := by
  unfold idc
  rw [UInt8.toNat_ofNat']
  have := Dig.cdv_le (idl m)
  omega
theorem idS_list (m : Int) : (idS m).data.toList = idl m ++ [idc m] := rfl
theorem idS_size (m : Int) : (idS m).size = 8 := rfl
theorem idS_vid (m : Int) : Dig.vid (idS m).data.toList = true := Dig.vid_made (idl m) (.inl rfl) (idl_alld m) _ (idc_nat m)
theorem idS_inj {a b : Int} (ha : 0 ≤ a ∧ a < 1000000) (hb : 0 ≤ b ∧ b < 1000000) (h : idS a = idS b) : a = b := by
  have h1 : idl a ++ [idc a] = idl b ++ [idc b] := by rw [← idS_list, ← idS_list, h]
  have h2 := (List.append_inj h1 rfl).1
  unfold idl at h2
  simp only [List.cons.injEq, and_true] at h2
  obtain ⟨e0, e1, e2, e3, e4, e5, e6⟩ := h2
  have key : ∀ x y : Int, dgt x = dgt y → x % 10 = y % 10 := fun x y e => by
    have h1 := dgt_nat x; have h2 := dgt_nat y
    rw [e] at h1; omega
  have k1 := key _ _ e1
  have k2 := key _ _ e2
  have k3 := key _ _ e3
  have k4 := key _ _ e4
  have k5 := key _ _ e5
  have k6 := key _ _ e6
  omega

/-- 'string(b)' of a block of bytes just made -/
theorem run_str_new {P : Program} (w : World) (l : List UInt8) (n : Nat) (cs : Array Value) {src dst e : TypeId} (hl : l.length = n) (hcs : cs = (l.map bv).toArray)
    (hs : P.underlying src = some (.slice e)) (he : P.underlying e = some (.int .u8)) (hd : P.underlying dst = some .string) :
    (convert src dst (.slice (some ⟨w.heap.size, 0, none⟩) n n)).run P (w.alloc (.cells cs e)) = .ok (.string ⟨l.toArray⟩) (w.alloc (.cells cs e)) := by
  subst hl hcs
  refine run_convert_bytes_back _ src dst e _ _ l hs he hd (fun j hj => ?_)
  have ha : (⟨w.heap.size, 0, none⟩ : Addr).add j = ⟨w.heap.size, j, none⟩ := by unfold Addr.add; split <;> simp_all
  rw [ha, World.cell?_alloc_mark w _ e (0, 0) j]
  simp [List.getElem?_eq_getElem hj, bv]

theorem bytes_app (a b : List UInt8) : (⟨a.toArray⟩ : ByteArray) ++ ⟨b.toArray⟩ = ⟨(a ++ b).toArray⟩ := by
  have h : ((⟨a.toArray⟩ : ByteArray) ++ ⟨b.toArray⟩).data.toList = a ++ b := by rw [ByteArray.data_append]; simp
  cases hh : (⟨a.toArray⟩ : ByteArray) ++ ⟨b.toArray⟩ with
  | mk d => rw [hh] at h; congr 1; rw [← h]
theorem ret_str {a c : ByteArray} (h : a = c) : Ending.returned (.string a) = Ending.returned (.string c) := by rw [h]

set_option maxHeartbeats 4000000 in
set_option maxRecDepth 100000 in
theorem id_any (k : Int) (w : World) :
    Calls Tryd.prog 47 #[.int .i64 k] w fun e w' => e = .returned (.string (idS (fld k 1000000))) ∧ Below w.heap.size w w' := by
  have hmk : ∀ w, (Instr.makeSlice 26 (.int .i64 7) (.int .i64 7)).run Tryd.prog w = .ok (.slice (some ⟨w.heap.size, 0, none⟩) 7 7) (w.alloc (.cells #[.int .u8 0, .int .u8 0, .int .u8 0, .int .u8 0, .int .u8 0, .int .u8 0, .int .u8 0] 5)) := fun _ => by kernel_rfl
  have hf := fold_any k 1000000 w (by omega) (by omega)
  obtain ⟨f0, f1⟩ := fld_bd k 1000000 (by omega)
  generalize fld k 1000000 = m at hf f0 f1
  have HF := hide hf
  clear hf
  have hs1 := run_str_new (P := Tryd.prog) (src := 26) (dst := 9) (e := 5) w (idl m) 7 #[.int .u8 (48 + (1000000 + m) / 10 / 10 / 10 / 10 / 10 / 10 % 10), .int .u8 (48 + (1000000 + m) / 10 / 10 / 10 / 10 / 10 % 10), .int .u8 (48 + (1000000 + m) / 10 / 10 / 10 / 10 % 10),
    .int .u8 (48 + (1000000 + m) / 10 / 10 / 10 % 10), .int .u8 (48 + (1000000 + m) / 10 / 10 % 10), .int .u8 (48 + (1000000 + m) / 10 % 10), .int .u8 (48 + (1000000 + m) % 10)] rfl (by simp only [idl, List.map_cons, List.map_nil, bv, dgt_nat]) Tryd.underlying26 Tryd.underlying5 Tryd.underlying9
  have hc := fun W => rcheck_any ⟨(idl m).toArray⟩ W
  have hok : Dig.okd (idl m) = true := by unfold Dig.okd; rw [idl_alld]; rfl
  have hcd : Dig.cd (idl m) = (Dig.cdv (idl m) : Int) := if_pos hok
  rw [show (⟨(idl m).toArray⟩ : ByteArray).data.toList = idl m from rfl, hok, hcd] at hc
  have hc9 := Dig.cdv_le (idl m)
  have hidS : idS m = ⟨(idl m ++ [UInt8.ofNat (48 + Dig.cdv (idl m))]).toArray⟩ := rfl
  have hbv : (Value.int .u8 (48 + (Dig.cdv (idl m) : Int))) = bv (UInt8.ofNat (48 + Dig.cdv (idl m))) := by have := idc_nat m; unfold idc at this; unfold bv; rw [this]
  have hs2 := fun W => run_str_new (P := Tryd.prog) (src := 26) (dst := 9) (e := 5) W [UInt8.ofNat (48 + Dig.cdv (idl m))] 1 #[.int .u8 (48 + (Dig.cdv (idl m) : Int))] rfl (by rw [hbv]; rfl) Tryd.underlying26 Tryd.underlying5 Tryd.underlying9
  rw [hidS]
  have hs3 := hs2 (w.alloc (.cells #[.int .u8 (48 + (1000000 + m) / 10 / 10 / 10 / 10 / 10 / 10 % 10), .int .u8 (48 + (1000000 + m) / 10 / 10 / 10 / 10 / 10 % 10), .int .u8 (48 + (1000000 + m) / 10 / 10 / 10 / 10 % 10),
    .int .u8 (48 + (1000000 + m) / 10 / 10 / 10 % 10), .int .u8 (48 + (1000000 + m) / 10 / 10 % 10), .int .u8 (48 + (1000000 + m) / 10 % 10), .int .u8 (48 + (1000000 + m) % 10)] 5))
  rw [World.size_alloc] at hs3
  clear hs2
  have hll : (idl m).length = 7 := rfl
  have HC := hide hc
  clear hc hok hcd hidS hbv
  generalize Dig.cdv (idl m) = d at HC hc9 hs3 ⊢
  generalize UInt8.ofNat (48 + d) = cc at hs3 ⊢
  generalize idl m = l at HC hs1 hll ⊢
  have hle : l.length ≤ 7 := by omega
  have happ : (⟨l.toArray⟩ : ByteArray) ++ ⟨#[cc]⟩ = ⟨(l ++ [cc]).toArray⟩ := bytes_app l [cc]
  have Happ := hide happ
  clear hll happ
  go_enter Tryd.func47, Tryd.ntmps47
  go_wp2_with (go_at_call 19; with_reducible refine HF.out.mono ?_; rintro e w1 ⟨rfl, rfl⟩)
  refine wp_loop_rounds 8 ?_
  iterate 8 (rw [rounds_succ]; go_wp2_with fail)
  with_reducible refine (HC.out _).mono ?_
  rintro e w2 ⟨rfl, rfl⟩
  go_wp2_with fail
  go_ret
  exact ⟨ret_str Happ.out, ((Below.refl _ _).alloc (Nat.le_refl _) _).alloc (by simp) _⟩

/-- an ID out of its place, where the place is a small number -/
theorem fld_small (k : Int) (h0 : 0 ≤ k) (h1 : k < 1000000) : fld k 1000000 = k := by unfold fld; omega
theorem id_is (k : Int) (w : World) (h0 : 0 ≤ k) (h1 : k < 1000000) :
    Calls Tryd.prog 47 #[.int .i64 k] w fun e w' => e = .returned (.string (idS k)) ∧ Below w.heap.size w w' := by
  have := id_any k w
  rwa [fld_small k h0 h1] at this
end Go.Proofs.YtjgbadopladmdaaDoor
