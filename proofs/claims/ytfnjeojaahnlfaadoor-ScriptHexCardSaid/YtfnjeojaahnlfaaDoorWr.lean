/- The library's variables, as the rows of this seat list them: what a world of such a row holds; a world that holds them. -/
import Derived.Test.YtfnjeojaahnlfaaDoorTie
import Derived.Test.YtfnjeojaahnlfaaDoorCards
import Derived.Test.YtfnjeojaahnlfaaDoorWc
import Derived.Deep.DeepWitnessRowRef
import Derived.Deep.DeepHandedRow
import Derived.Deep.DeepLaidRun
import Derived.Lib.LaidU8
import Derived.Stop.LaidErr
import Derived.Shelf.Vars
namespace Go.Proofs.YtfnjeojaahnlfaaDoor
open Go.RowKit
/-- A world for the witness: the settled one with two blocks more (the ranges of unicode.White_Space, its table), the variables holding what their initialisers lay. -/
noncomputable def laidWorld (os : Os) : World :=
  let N := (World.settled Tryd.prog os).heap.size
  let w0 := World.holding Tryd.prog os ⟨#[.cells (Lib.whiteT.map fun (z : Nat) => Value.int .u16 (z : Int)).toArray 101, .cells #[.slice (some ⟨N, 0, none⟩) 7 7, .slice none 0 0, .int .i64 2] 99], #[], []⟩
  let put (h : Array Obj) (g : Nat) (cs : Array Value) : Array Obj := h.modify g fun
    | .cells _ t frozen => .cells cs t frozen
    | o => o
  { w0 with heap := put (put (put (put w0.heap 0 (Lib.asciiSpaceTab.map fun z => Value.int .u8 z).toArray) 3 (Lib.firstTab.map fun z => Value.int .u8 z).toArray)
      4 ((List.range 16).flatMap fun i => [Value.int .u8 (Lib.accLo i), Value.int .u8 (Lib.accHi i)]).toArray) 1 #[.pointer (some ⟨N + 1, 0, none⟩)] }
theorem laid_met (os : Os) (args : Array Value) : laidMet Tryd.prog Rows.scriptManyRow.laid ((laidWorld os).forCall (fun _ _ => 0) ⟨#[], args, []⟩).memory :=
  laidMet_of_run3 10 (by kernel_rfl) (by kernel_rfl) (by kernel_rfl)
theorem gT : Tryd.prog.globalNamed "strings.asciiSpace" = some 0 := by kernel_rfl
theorem gTType : (Tryd.prog.globals[0]?).map (·.type) = some 66 := by kernel_rfl
theorem cellsT : Tryd.prog.cellsOf 66 = 256 := by kernel_rfl
theorem cellsB : Tryd.prog.cellsOf 5 = 1 := by kernel_rfl
theorem sp_is : Rows.laid_strings_asciiSpace (H := Unit) = Lib.tabData .u8 Lib.asciiSpaceTab := by kernel_rfl
theorem glob_of {W : World} (hL : laidMet Tryd.prog Rows.scriptManyRow.laid W) (hsh : W.ShapedOpen Tryd.prog) : Glob W := by
  have hT : Lib.TabIs Tryd.prog W "strings.asciiSpace" .u8 Lib.asciiSpaceTab := by
    have h := laidMet.tail (laidMet.tail hL)
    rw [sp_is] at h
    exact Lib.tabIs_of_head gT gTType Tryd.underlying66 Tryd.underlying5 cellsB cellsT h
  refine ⟨cell_of_shapedOpen_int (t := 3) (zero := #[.int .i64 0]) hsh (of_decide_eq_true (by kernel_rfl)) (by kernel_rfl) rfl (by kernel_rfl) (by kernel_rfl) Tryd.underlying3, fun c hc => ?_⟩
  rw [hT.cell gT c (by rw [Lib.asciiSpaceTab_length]; exact hc), Lib.asciiSpaceTab_at c hc]
end Go.Proofs.YtfnjeojaahnlfaaDoor
