/- Several texts of one claim, one behind the other (Rs). -/
import Derived.Test.YtlfmpjojdhfflaaB14
import Derived.Ground.SlsfProg
set_option linter.unusedVariables false
/- The shelf's contract of slices.SortFunc at reports, laid at this program (printed by the kit's lay-plain), and over facts: of none. -/
namespace Go.Proofs.Ytlfmpjojdhfflaa
open Go.Shelf Go.Sort Go.RowKit
def sortR_ren : Go.Shelf.Ren := ⟨fun | 6 => 35 | 15 => 46 | 14 => 45 | 28 => 57 | 29 => 58 | 20 => 49 | 21 => 50 | 22 => 51 | 23 => 52 | 24 => 53 | 25 => 54 | 26 => 55 | 27 => 56 | 46 => 60 | 47 => 61 | 48 => 62 | 49 => 63 | 50 => 64 | 57 => 65 | n => n, fun | 22 => 37 | 24 => 33 | 25 => 72 | 3 => 3 | 39 => 79 | 0 => 0 | 53 => 90 | 55 => 30 | 4 => 4 | 46 => 84 | 45 => 83 | 50 => 63 | 5 => 5 | 9 => 9 | 66 => 92 | 70 => 96 | 76 => 98 | 77 => 99 | n => n, fun | n => n⟩
theorem sortR : Go.Proofs.SlLaysF0.n6 Try.prog sortR_ren := {
  mixed := by kernel_rfl
  f6 := ⟨Try.f35.name, by decide, Try.func35.trans (congrArg some (by kernel_rfl))⟩
  f14 := ⟨Try.f45.name, by decide, Try.func45.trans (congrArg some (by kernel_rfl))⟩
  f15 := Try.func46.trans (congrArg some (by kernel_rfl))
  f20 := ⟨Try.f49.name, by decide, Try.func49.trans (congrArg some (by kernel_rfl))⟩
  f21 := ⟨Try.f50.name, by decide, Try.func50.trans (congrArg some (by kernel_rfl))⟩
  f22 := ⟨Try.f51.name, by decide, Try.func51.trans (congrArg some (by kernel_rfl))⟩
  f23 := ⟨Try.f52.name, by decide, Try.func52.trans (congrArg some (by kernel_rfl))⟩
  f24 := ⟨Try.f53.name, by decide, Try.func53.trans (congrArg some (by kernel_rfl))⟩
  f25 := ⟨Try.f54.name, by decide, Try.func54.trans (congrArg some (by kernel_rfl))⟩
  f26 := ⟨Try.f55.name, by decide, Try.func55.trans (congrArg some (by kernel_rfl))⟩
  f27 := ⟨Try.f56.name, by decide, Try.func56.trans (congrArg some (by kernel_rfl))⟩
  f28 := Try.func57.trans (congrArg some (by kernel_rfl))
  f29 := Try.func58.trans (congrArg some (by kernel_rfl))
  f46 := ⟨Try.f60.name, by decide, Try.func60.trans (congrArg some (by kernel_rfl))⟩
  f47 := Try.func61.trans (congrArg some (by kernel_rfl))
  f48 := Try.func62.trans (congrArg some (by kernel_rfl))
  f49 := ⟨Try.f63.name, by decide, Try.func63.trans (congrArg some (by kernel_rfl))⟩
  f50 := ⟨Try.f64.name, by decide, Try.func64.trans (congrArg some (by kernel_rfl))⟩
  f57 := ⟨Try.f65.name, by decide, Try.func65.trans (congrArg some (by kernel_rfl))⟩
  t0 := Try.underlying0
  a0 := Try.isAgg0
  z0 := Try.sizeOf0
  v0 := Try.zeroValue0
  t3 := Try.underlying3
  a3 := Try.isAgg3
  z3 := Try.sizeOf3
  v3 := Try.zeroValue3
  t4 := Try.underlying4
  a4 := Try.isAgg4
  z4 := Try.sizeOf4
  v4 := Try.zeroValue4
  t5 := Try.underlying5
  a5 := Try.isAgg5
  z5 := Try.sizeOf5
  v5 := Try.zeroValue5
  t9 := Try.underlying9
  a9 := Try.isAgg9
  z9 := Try.sizeOf9
  v9 := Try.zeroValue9
  t22 := Try.underlying37
  a22 := Try.isAgg37
  z22 := Try.sizeOf37
  v22 := Try.zeroValue37
  t25 := Try.underlying72
  a25 := Try.isAgg72
  z25 := Try.sizeOf72
  v25 := Try.zeroValue72
  t39 := Try.underlying79
  a39 := Try.isAgg79
  z39 := Try.sizeOf79
  v39 := Try.zeroValue79
  t45 := Try.underlying83
  a45 := Try.isAgg83
  z45 := Try.sizeOf83
  v45 := Try.zeroValue83
  t46 := Try.underlying84
  a46 := Try.isAgg84
  z46 := Try.sizeOf84
  v46 := Try.zeroValue84
  t50 := Try.underlying63
  a50 := Try.isAgg63
  z50 := Try.sizeOf63
  v50 := Try.zeroValue63
  t53 := Try.underlying90
  a53 := Try.isAgg90
  z53 := Try.sizeOf90
  v53 := Try.zeroValue90
  t55 := Try.underlying30
  a55 := Try.isAgg30
  z55 := Try.sizeOf30
  v55 := Try.zeroValue30
  t66 := Try.underlying92
  a66 := Try.isAgg92
  z66 := Try.sizeOf92
  v66 := Try.zeroValue92
  t70 := Try.underlying96
  a70 := Try.isAgg96
  z70 := Try.sizeOf96
  v70 := Try.zeroValue96
  t76 := Try.underlying98
  a76 := Try.isAgg98
  z76 := Try.sizeOf98
  v76 := Try.zeroValue98
  t77 := Try.underlying99
  a77 := Try.isAgg99
  z77 := Try.sizeOf99
  v77 := Try.zeroValue99 }
/-- Of none. -/
theorem sort_none {K : List Fa} {A : Option Addr} {c : Nat} {fv : Value} : Fn Try.prog 35 #[.slice A 0 c, fv] K (Ret (fun _ : Unit => True) (fun _ => .tuple #[]) (fun _ => K)) := by
  unfold Fn
  intro w hw
  refine (AnyF.slices_SortFunc_none sortR A c fv w).mono ?_
  rintro x w' ⟨rfl, rfl⟩
  exact ⟨(), trivial, rfl, hw⟩
end Go.Proofs.Ytlfmpjojdhfflaa
