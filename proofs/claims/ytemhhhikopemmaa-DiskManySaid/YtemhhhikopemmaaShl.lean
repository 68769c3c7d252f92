/- The shelf's contract of slices.Sort at strings, laid at this program (printed by the kit's lay-plain), and over facts. -/
import Derived.Shelf.Sort.Plain
import Derived.Shelf.Slices.In.SortNone
import Derived.Test.YtemhhhikopemmaaSrt
import Derived.Test.YtemhhhikopemmaaMem
namespace Go.Proofs.Ytemhhhikopemmaa
open Go.Shelf Go.Sort Go.RowKit
def lays190_ren : Go.Shelf.Ren := ⟨fun | 190 => 45 | 125 => 59 | 258 => 58 | 128 => 74 | 129 => 75 | 302 => 65 | 303 => 66 | 304 => 67 | 305 => 68 | 306 => 69 | 307 => 70 | 308 => 71 | 309 => 72 | 310 => 73 | 333 => 80 | 329 => 81 | 330 => 82 | 334 => 83 | 335 => 84 | 336 => 85 | 344 => 88 | n => n, fun | 31 => 52 | 9 => 9 | 3 => 3 | 46 => 25 | 0 => 0 | 51 => 37 | 53 => 82 | 4 => 4 | 183 => 122 | 182 => 121 | 131 => 127 | 5 => 5 | 218 => 134 | 222 => 138 | 228 => 144 | 229 => 145 | n => n, fun | n => n⟩
theorem lays190 : Go.Proofs.Lays.n190 Try.prog lays190_ren := {
  mixed := by kernel_rfl
  f125 := Try.func59.trans (congrArg some (by kernel_rfl))
  f128 := Try.func74.trans (congrArg some (by kernel_rfl))
  f129 := Try.func75.trans (congrArg some (by kernel_rfl))
  f190 := Try.func45.trans (congrArg some (by kernel_rfl))
  f258 := Try.func58.trans (congrArg some (by kernel_rfl))
  f302 := Try.func65.trans (congrArg some (by kernel_rfl))
  f303 := Try.func66.trans (congrArg some (by kernel_rfl))
  f304 := Try.func67.trans (congrArg some (by kernel_rfl))
  f305 := Try.func68.trans (congrArg some (by kernel_rfl))
  f306 := Try.func69.trans (congrArg some (by kernel_rfl))
  f307 := Try.func70.trans (congrArg some (by kernel_rfl))
  f308 := Try.func71.trans (congrArg some (by kernel_rfl))
  f309 := Try.func72.trans (congrArg some (by kernel_rfl))
  f310 := Try.func73.trans (congrArg some (by kernel_rfl))
  f329 := Try.func81.trans (congrArg some (by kernel_rfl))
  f330 := Try.func82.trans (congrArg some (by kernel_rfl))
  f333 := Try.func80.trans (congrArg some (by kernel_rfl))
  f334 := Try.func83.trans (congrArg some (by kernel_rfl))
  f335 := Try.func84.trans (congrArg some (by kernel_rfl))
  f336 := Try.func85.trans (congrArg some (by kernel_rfl))
  f344 := Try.func88.trans (congrArg some (by kernel_rfl))
  t0 := Try.underlying0
  a0 := Try.isAgg0
  z0 := Try.sizeOf0
  v0 := Try.zeroValue0
  t3 := Try.underlying3
  a3 := Try.isAgg3
  z3 := Try.sizeOf3
  v3 := Try.zeroValue3
  t4 := Try.underlying4
  a4 := Try.isAgg4
  z4 := Try.sizeOf4
  v4 := Try.zeroValue4
  t5 := Try.underlying5
  a5 := Try.isAgg5
  z5 := Try.sizeOf5
  v5 := Try.zeroValue5
  t9 := Try.underlying9
  a9 := Try.isAgg9
  z9 := Try.sizeOf9
  v9 := Try.zeroValue9
  t31 := Try.underlying52
  a31 := Try.isAgg52
  z31 := Try.sizeOf52
  v31 := Try.zeroValue52
  t46 := Try.underlying25
  a46 := Try.isAgg25
  z46 := Try.sizeOf25
  v46 := Try.zeroValue25
  t51 := Try.underlying37
  a51 := Try.isAgg37
  z51 := Try.sizeOf37
  v51 := Try.zeroValue37
  t53 := Try.underlying82
  a53 := Try.isAgg82
  z53 := Try.sizeOf82
  v53 := Try.zeroValue82
  t131 := Try.underlying127
  a131 := Try.isAgg127
  z131 := Try.sizeOf127
  v131 := Try.zeroValue127
  t182 := Try.underlying121
  a182 := Try.isAgg121
  z182 := Try.sizeOf121
  v182 := Try.zeroValue121
  t183 := Try.underlying122
  a183 := Try.isAgg122
  z183 := Try.sizeOf122
  v183 := Try.zeroValue122
  t218 := Try.underlying134
  a218 := Try.isAgg134
  z218 := Try.sizeOf134
  v218 := Try.zeroValue134
  t222 := Try.underlying138
  a222 := Try.isAgg138
  z222 := Try.sizeOf138
  v222 := Try.zeroValue138
  t228 := Try.underlying144
  a228 := Try.isAgg144
  z228 := Try.sizeOf144
  v228 := Try.zeroValue144
  t229 := Try.underlying145
  a229 := Try.isAgg145
  z229 := Try.sizeOf145
  v229 := Try.zeroValue145 }
theorem sorts_ok {K : List Fa} {A : Option Addr} {c : Nat} {ss : List (List UInt8)} (hn : ss.length ≤ 1000000) :
    Fn Try.prog 45 #[.slice A ss.length c] (own 9 1 A ss.length c (ss.map encStr) :: K) (Ret (fun _ : Unit => True) (fun _ => .tuple #[]) (fun _ => own 9 1 A ss.length c ((ss.mergeSort fun x y => decide (x ≤ y)).map encStr) :: K)) := by
  rcases Nat.eq_zero_or_pos ss.length with h0 | h0
  · obtain rfl : ss = [] := List.eq_nil_of_length_eq_zero h0
    unfold Fn
    intro w hw
    refine (Any.slices_Sort_string_none lays190 A c w).mono ?_
    rintro x w' ⟨rfl, rfl⟩
    refine ⟨(), trivial, rfl, ?_⟩
    simpa using hw
  · unfold Fn
    intro w hw
    obtain ⟨g, cap, hv, _, _⟩ := World.ownsRow.form (show w.ownsRow 0 9 1 (.slice A ss.length c) ss.length (ss.map encStr) from by have := hw.hd; unfold own at this; exact this) h0
    obtain rfl : A = some ⟨g, 0, none⟩ := by injection hv
    have h1 : (ss.map encStr) = ss.toArray.toList.map encStr := by simp
    rw [h1] at hw
    obtain ⟨hH, hg, _, _, hS⟩ := sep_sorted hw
    refine (Any.slices_Sort_string lays190 g 0 c ss w hH hg (by omega)).mono ?_
    rintro x w' ⟨rfl, m, os, rfl⟩
    refine ⟨(), trivial, rfl, ?_⟩
    have h2 := hS (ss.mergeSort fun x y => decide (x ≤ y)).toArray m os (by simp)
    simpa [sortWorld] using h2
end Go.Proofs.Ytemhhhikopemmaa
