/-
  DERIVED: THE SHELF's CONTRACTS AT THIS DUMP, IN PLAIN WORDS (tools/lay-plain.mjs out of 'YtjgbadopladmdaaDoorSrcS.lean', which tools/lay-shelf.mjs wrote): THE SAME DECLARATIONS UNDER THE SAME NAMES: 'import', 'namespace', 'open', 'def', 'theorem' AND NOTHING ELSE: no command of the shelf's: FOR A HAND-IN. Each laying: the table of numbers ('.._ren') and one theorem, a field a fact of the dump's own or the kernel's comparison; each contract: ONE APPLICATION.
-/
import Derived.Test.YtjgbadopladmdaaDoorProg
import Derived.Ground.NamesProg
import Derived.Shelf.Sort.Plain
import Derived.Shelf.Slices.In.SortNone
namespace Go.Proofs
open Go.Shelf
def Tryd.lays190_ren : Go.Shelf.Ren := ⟨fun | 190 => 63 | 125 => 81 | 258 => 80 | 128 => 105 | 129 => 106 | 302 => 96 | 303 => 97 | 304 => 98 | 305 => 99 | 306 => 100 | 307 => 101 | 308 => 102 | 309 => 103 | 310 => 104 | 333 => 122 | 329 => 123 | 330 => 124 | 334 => 125 | 335 => 126 | 336 => 127 | 344 => 135 | n => n, fun | 31 => 62 | 9 => 9 | 3 => 3 | 46 => 117 | 0 => 0 | 51 => 139 | 53 => 77 | 4 => 4 | 183 => 132 | 182 => 131 | 131 => 22 | 5 => 5 | 218 => 153 | 222 => 157 | 228 => 162 | 229 => 163 | n => n, fun | n => n⟩
theorem Tryd.lays190 : Go.Proofs.Lays.n190 Tryd.prog Tryd.lays190_ren := {
  mixed := by kernel_rfl
  f125 := Tryd.func81.trans (congrArg some (by kernel_rfl))
  f128 := Tryd.func105.trans (congrArg some (by kernel_rfl))
  f129 := Tryd.func106.trans (congrArg some (by kernel_rfl))
  f190 := Tryd.func63.trans (congrArg some (by kernel_rfl))
  f258 := Tryd.func80.trans (congrArg some (by kernel_rfl))
  f302 := Tryd.func96.trans (congrArg some (by kernel_rfl))
  f303 := Tryd.func97.trans (congrArg some (by kernel_rfl))
  f304 := Tryd.func98.trans (congrArg some (by kernel_rfl))
  f305 := Tryd.func99.trans (congrArg some (by kernel_rfl))
  f306 := Tryd.func100.trans (congrArg some (by kernel_rfl))
  f307 := Tryd.func101.trans (congrArg some (by kernel_rfl))
  f308 := Tryd.func102.trans (congrArg some (by kernel_rfl))
  f309 := Tryd.func103.trans (congrArg some (by kernel_rfl))
  f310 := Tryd.func104.trans (congrArg some (by kernel_rfl))
  f329 := Tryd.func123.trans (congrArg some (by kernel_rfl))
  f330 := Tryd.func124.trans (congrArg some (by kernel_rfl))
  f333 := Tryd.func122.trans (congrArg some (by kernel_rfl))
  f334 := Tryd.func125.trans (congrArg some (by kernel_rfl))
  f335 := Tryd.func126.trans (congrArg some (by kernel_rfl))
  f336 := Tryd.func127.trans (congrArg some (by kernel_rfl))
  f344 := Tryd.func135.trans (congrArg some (by kernel_rfl))
  t0 := Tryd.underlying0
  a0 := Tryd.isAgg0
  z0 := Tryd.sizeOf0
  v0 := Tryd.zeroValue0
  t3 := Tryd.underlying3
  a3 := Tryd.isAgg3
  z3 := Tryd.sizeOf3
  v3 := Tryd.zeroValue3
  t4 := Tryd.underlying4
  a4 := Tryd.isAgg4
  z4 := Tryd.sizeOf4
  v4 := Tryd.zeroValue4
  t5 := Tryd.underlying5
  a5 := Tryd.isAgg5
  z5 := Tryd.sizeOf5
  v5 := Tryd.zeroValue5
  t9 := Tryd.underlying9
  a9 := Tryd.isAgg9
  z9 := Tryd.sizeOf9
  v9 := Tryd.zeroValue9
  t31 := Tryd.underlying62
  a31 := Tryd.isAgg62
  z31 := Tryd.sizeOf62
  v31 := Tryd.zeroValue62
  t46 := Tryd.underlying117
  a46 := Tryd.isAgg117
  z46 := Tryd.sizeOf117
  v46 := Tryd.zeroValue117
  t51 := Tryd.underlying139
  a51 := Tryd.isAgg139
  z51 := Tryd.sizeOf139
  v51 := Tryd.zeroValue139
  t53 := Tryd.underlying77
  a53 := Tryd.isAgg77
  z53 := Tryd.sizeOf77
  v53 := Tryd.zeroValue77
  t131 := Tryd.underlying22
  a131 := Tryd.isAgg22
  z131 := Tryd.sizeOf22
  v131 := Tryd.zeroValue22
  t182 := Tryd.underlying131
  a182 := Tryd.isAgg131
  z182 := Tryd.sizeOf131
  v182 := Tryd.zeroValue131
  t183 := Tryd.underlying132
  a183 := Tryd.isAgg132
  z183 := Tryd.sizeOf132
  v183 := Tryd.zeroValue132
  t218 := Tryd.underlying153
  a218 := Tryd.isAgg153
  z218 := Tryd.sizeOf153
  v218 := Tryd.zeroValue153
  t222 := Tryd.underlying157
  a222 := Tryd.isAgg157
  z222 := Tryd.sizeOf157
  v222 := Tryd.zeroValue157
  t228 := Tryd.underlying162
  a228 := Tryd.isAgg162
  z228 := Tryd.sizeOf162
  v228 := Tryd.zeroValue162
  t229 := Tryd.underlying163
  a229 := Tryd.isAgg163
  z229 := Tryd.sizeOf163
  v229 := Tryd.zeroValue163 }
open Go.Sort Go.RowKit in
theorem Tryd.slices_Sort_string (blk off cap : Nat) (ss : List (List UInt8)) (w : World) (hH : Holds encStr w blk off ss.toArray) (hblk : blk < w.heap.size) (hsz : ss.length < 4611686018427387904) :
    Calls Tryd.prog 63 #[.slice (some ⟨blk, off, none⟩) ss.length cap] w fun e w' =>
      e = .returned (.tuple #[]) ∧ ∃ n os, w' = grow (putRow encStr (Sort.ahead w n) blk off (ss.mergeSort fun x y => decide (x ≤ y)).toArray) os := Any.slices_Sort_string Tryd.lays190 blk off cap ss w hH hblk hsz
open Go.RowKit Go.Sort in
/-- .. and plain. (LAID: no walk: one application.) -/
theorem Tryd.slices_Sort_string_none (p : Option Addr) (cap : Nat) (w : World) :
    Calls Tryd.prog 63 #[.slice p 0 cap] w fun e w' => e = .returned (.tuple #[]) ∧ w' = w := Any.slices_Sort_string_none Tryd.lays190 p cap w
end Go.Proofs
