/- The shelf's contract of bits.Len, laid at this program (printed by the kit's lay-plain; its numbers are this seat's). -/
import Derived.Test.YtdmeofobljjpfaaSp4
import Derived.Shelf.Small.Bits
namespace Go.Proofs.Ytdmeofobljjpfaa
open Go.Shelf Go.RowKit
def layLen_ren : Go.Shelf.Ren := ⟨fun | 125 => 40 | 128 => 54 | 129 => 55 | n => n, fun | 46 => 103 | 3 => 3 | 51 => 117 | 53 => 22 | 4 => 4 | 5 => 5 | 9 => 9 | n => n, fun | n => n⟩
theorem layLen : Go.Proofs.Lays.n125 Try.prog layLen_ren := {
  mixed := by kernel_rfl
  f125 := Try.func40.trans (congrArg some (by kernel_rfl))
  f128 := Try.func54.trans (congrArg some (by kernel_rfl))
  f129 := Try.func55.trans (congrArg some (by kernel_rfl))
  t3 := Try.underlying3
  a3 := Try.isAgg3
  z3 := Try.sizeOf3
  v3 := Try.zeroValue3
  t4 := Try.underlying4
  a4 := Try.isAgg4
  z4 := Try.sizeOf4
  v4 := Try.zeroValue4
  t5 := Try.underlying5
  a5 := Try.isAgg5
  z5 := Try.sizeOf5
  v5 := Try.zeroValue5
  t9 := Try.underlying9
  a9 := Try.isAgg9
  z9 := Try.sizeOf9
  v9 := Try.zeroValue9
  t46 := Try.underlying103
  a46 := Try.isAgg103
  z46 := Try.sizeOf103
  v46 := Try.zeroValue103
  t51 := Try.underlying117
  a51 := Try.isAgg117
  z51 := Try.sizeOf117
  v51 := Try.zeroValue117
  t53 := Try.underlying22
  a53 := Try.isAgg22
  z53 := Try.sizeOf22
  v53 := Try.zeroValue22 }

theorem fn_eq {P : Program} {f : FuncId} {args : Array Value} {v : Value} {K : List Fa} (h : ∀ W, Calls P f args W fun e w' => e = .returned v ∧ w' = W) : Fn P f args K (Ret (fun _ : Unit => True) (fun _ => v) (fun _ => K)) := by
  unfold Fn
  intro w hw
  refine (h w).mono ?_
  rintro e w' ⟨rfl, rfl⟩
  exact ⟨(), trivial, rfl, hw⟩
theorem len_c (x : Int) (h0 : 0 ≤ x) (h1 : x ≤ 18446744073709551615) (w : World) : Calls Try.prog 40 #[.int .u64 x] w fun e w' => e = .returned (.int .i64 (Lib.bitLen x.toNat)) ∧ w' = w := Any.bits_Len layLen x w h0 h1
end Go.Proofs.Ytdmeofobljjpfaa
