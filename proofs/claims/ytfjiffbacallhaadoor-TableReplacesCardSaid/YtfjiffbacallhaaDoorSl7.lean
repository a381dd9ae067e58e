/- Contracts of functions that the law reaches: YtfjiffbacallhaaDoorSl7. Written for this claim. -/
import Derived.Test.YtfjiffbacallhaaDoorSl6
import Derived.Test.YtfjiffbacallhaaDoorSxSlice
import Derived.Shelf.SlSortFuncK.WholeK
import Derived.Shelf.GgSortFunc.Tiny
import Derived.Deep.QuietTactic
import Derived.Test.YtfjiffbacallhaaDoorProg
namespace Go.Proofs.YtfjiffbacallhaaDoor
open Go Go.Sx Go.Shelf Go.RowKit Go.Lib Go.Sort Go.Proofs
set_option linter.unusedVariables false
set_option linter.unusedSimpArgs false
set_option maxRecDepth 100000
noncomputable def svT : TypeInfo := (Tryd.prog.info? 23).get (by kernel_rfl)
noncomputable def svE : TypeInfo := (Tryd.prog.info? 43).get (by kernel_rfl)
theorem svK (n : Nat) (h2 : 2 ≤ n) : Lib.swapperK n svE 25 = 9 := by
  have a : svE.hasPointers = true := by kernel_rfl
  have b : svE.bytes = 32 := by kernel_rfl
  have c : (n == 0) = false := by simp; omega
  have d : (n == 1) = false := by simp; omega
  simp [Lib.swapperK, a, b, c, d]
set_option maxHeartbeats 2000000 in
theorem lessKey : LessKey Tryd.prog 29 := by
  intro blk off c B n W K hs hc i j hi hj hn
  have ci := hc i hi
  have cj := hc j hj
  go_enter Tryd.func29, Tryd.ntmps29
  go_wp2
  go_quiet (fail)
  go_wp2
  go_ret
  exact ⟨rfl, nq, rfl⟩
theorem svK0 : Lib.swapperK 0 svE 25 = 1 := rfl
theorem svK1 : Lib.swapperK 1 svE 25 = 2 := rfl
theorem sliceAt : SliceAt Tryd.prog 28 23 29 where
  enter := enters_of Tryd.func28 (by kernel_rfl) rfl
  less := lessKey
  tiny := fun p n c h la lb w => by
    rcases (show n = 0 ∨ n = 1 by omega) with rfl | rfl
    · exact Any.sort_Slice_tiny Tryd.sl6 23 43 svT svE (by kernel_rfl) (by kernel_rfl) (by kernel_rfl) (by kernel_rfl) 25 (fun _ => by kernel_rfl) p 0 c (by omega) 55 (by rw [svK0]; kernel_rfl) _ la lb w
    · exact Any.sort_Slice_tiny Tryd.sl6 23 43 svT svE (by kernel_rfl) (by kernel_rfl) (by kernel_rfl) (by kernel_rfl) 25 (fun _ => by kernel_rfl) p 1 c (by omega) 56 (by rw [svK1]; kernel_rfl) _ la lb w
  whole := fun lb blk off c d h2 hsz w hless hH hblk =>
    Any.sort_Slice_cells_eq Tryd.sl6 23 43 svT svE (by kernel_rfl) (by kernel_rfl) (by kernel_rfl) (by kernel_rfl) 25 (fun _ => by kernel_rfl) enc2 2 enc2_len (by kernel_rfl) (fun _ => by kernel_rfl)
      enc2_one ltR swo_ltR 29 lb (enters_of Tryd.func29 (by kernel_rfl) rfl) blk off c d h2 hsz 63 (by rw [svK _ h2]; kernel_rfl) false
      (fun args W => run_callFunc_extern Tryd.func63 (by kernel_rfl) (by kernel_rfl) (by kernel_rfl) (e := Extern.ReflectliteSwapper.swap false) (by kernel_rfl) args W) w hless hH hblk
end Go.Proofs.YtfjiffbacallhaaDoor
