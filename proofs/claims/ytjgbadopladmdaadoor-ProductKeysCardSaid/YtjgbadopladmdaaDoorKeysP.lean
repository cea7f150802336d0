/- Made items' keys and differences: the plain law of ProductKeys. -/
import Derived.Test.YtjgbadopladmdaaDoorEachT
import Derived.Test.YtjgbadopladmdaaDoorDiffP
import Derived.Test.YtjgbadopladmdaaDoorKeyW
namespace Go.Proofs.YtjgbadopladmdaaDoor
open Rel (Lk)

def acme : ByteArray := ⟨#[97, 99, 109, 101]⟩
/-- the attributes of a made item, sorted -/
def itemS (x y : Nat) : List Lk := [(colN, colS y), (powN, powS x)]
theorem srt_item (x y : Nat) (sw : Bool) : Srt.srt (itemL x y sw) = itemS x y := by
  have h1 : Srt.lt (colN, colS y) (powN, powS x) = true := by
    unfold Srt.lt
    rw [Lib.toList_data, Lib.toList_data]
    rfl
  have h2 : Srt.lt (powN, powS x) (colN, colS y) = false := Srt.lt_asymm h1
  unfold itemL itemS
  cases sw <;> simp [Srt.srt, Srt.put, Srt.posn, h1, h2]

theorem key_fin : ∀ (u1 u2 : Fin 2) (x1 x2 : Fin 4) (y1 y2 : Fin 3), (keyL (codeS u1) acme (itemS x1 y1) == keyL (codeS u2) acme (itemS x2 y2)) = (decide (u1 = u2) && (decide (x1 = x2) && decide (y1 = y2))) := by decide +kernel
theorem key_item {u1 u2 x1 x2 y1 y2 : Nat} (hu1 : u1 < 2) (hu2 : u2 < 2) (hx1 : x1 < 4) (hx2 : x2 < 4) (hy1 : y1 < 3) (hy2 : y2 < 3) :
    ((keyS (codeS u1) acme (itemS x1 y1)).toList == (keyS (codeS u2) acme (itemS x2 y2)).toList) = (decide (u1 = u2) && (decide (x1 = x2) && decide (y1 = y2))) := by
  have h := key_fin ⟨u1, hu1⟩ ⟨u2, hu2⟩ ⟨x1, hx1⟩ ⟨x2, hx2⟩ ⟨y1, hy1⟩ ⟨y2, hy2⟩
  rw [Lib.toList_data, Lib.toList_data]
  simpa [keyS, Fin.ext_iff] using h
theorem code_item {u1 u2 : Nat} (hu1 : u1 < 2) (hu2 : u2 < 2) : ((codeS u1).toList == (codeS u2).toList) = decide (u1 = u2) := by
  have h : ∀ u1 u2 : Fin 2, ((codeS u1).data.toList == (codeS u2).data.toList) = decide (u1 = u2) := by decide +kernel
  rw [Lib.toList_data, Lib.toList_data]
  simpa [Fin.ext_iff] using h ⟨u1, hu1⟩ ⟨u2, hu2⟩

theorem odd_fin : ∀ (x1 x2 : Fin 4) (y1 y2 : Fin 3) (s1 s2 : Bool), (Dif.odd (itemL x1 y1 s1) (itemL x2 y2 s2)).isEmpty = (decide (x1 = x2) && decide (y1 = y2)) := by decide +kernel
theorem dif_nil (La Lb : List Lk) : ((Dif.dif La Lb).length = 0) ↔ (Dif.odd La Lb).isEmpty = true := by
  rw [← Dif.dif_ref, ← Dif.upTo_all, Srt.srt_len]
  cases h : Dif.odd La Lb with
  | nil => simp [Dif.upTo, Lib.compactUpTo]
  | cons a l =>
    have := Dif.upTo_pos (Srt.srt (a :: l)) l.length
    simp only [List.length_cons, List.isEmpty_cons, Bool.false_eq_true, iff_false]
    omega
theorem dif_item {x1 x2 y1 y2 : Nat} (hx1 : x1 < 4) (hx2 : x2 < 4) (hy1 : y1 < 3) (hy2 : y2 < 3) (s1 s2 : Bool) :
    decide ((Dif.dif (itemL x1 y1 s1) (itemL x2 y2 s2)).length = 0) = (decide (x1 = x2) && decide (y1 = y2)) := by
  have h := odd_fin ⟨x1, hx1⟩ ⟨x2, hx2⟩ ⟨y1, hy1⟩ ⟨y2, hy2⟩ s1 s2
  have e : decide ((Dif.dif (itemL x1 y1 s1) (itemL x2 y2 s2)).length = 0) = (Dif.odd (itemL x1 y1 s1) (itemL x2 y2 s2)).isEmpty := by
    cases hb : (Dif.odd (itemL x1 y1 s1) (itemL x2 y2 s2)).isEmpty with
    | true => exact decide_eq_true ((dif_nil _ _).2 hb)
    | false => exact decide_eq_false fun h => by rw [(dif_nil _ _).1 h] at hb; cases hb
  rw [e]
  simpa [Fin.ext_iff] using h
theorem item_swap (x y : Nat) (sw : Bool) : (itemL x y sw).reverse = itemL x y (!sw) := by cases sw <;> rfl
end Go.Proofs.YtjgbadopladmdaaDoor
