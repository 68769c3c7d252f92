/- Package strings: Split at one byte, Cut, Fields on plain letters, over facts. The layings are printed by the kit's lay-plain for this seat. -/
import Derived.Shelf.Strings.Split
import Derived.Shelf.Strings.Fields
import Derived.Shelf.Strings.Cut
import Derived.Test.YtfnjeojaahnlfaaDoorWf

namespace Go.Proofs.YtfnjeojaahnlfaaDoor
open Go.Shelf Go.RowKit
def layS_ren : Go.Shelf.Ren := ⟨fun | 146 => 14 | 221 => 20 | 268 => 29 | 138 => 30 | 143 => 31 | 195 => 41 | 197 => 42 | 218 => 43 | 219 => 32 | 260 => 49 | 217 => 19 | 225 => 44 | 224 => 45 | 267 => 46 | 266 => 28 | 314 => 50 | n => n, fun | 9 => 9 | 31 => 57 | 3 => 3 | 4 => 4 | 0 => 0 | 105 => 93 | 21 => 21 | 5 => 5 | 46 => 54 | 119 => 66 | 139 => 114 | 138 => 113 | 146 => 108 | 51 => 83 | n => n, fun | 1 => 2 | 3 => 3 | 4 => 4 | n => n⟩
theorem layS : Go.Proofs.Lays.n146 Tryd.prog layS_ren := {
  mixed := by kernel_rfl
  f138 := Tryd.func30.trans (congrArg some (by kernel_rfl))
  f143 := Tryd.func31.trans (congrArg some (by kernel_rfl))
  f146 := Tryd.func14.trans (congrArg some (by kernel_rfl))
  f195 := Tryd.func41.trans (congrArg some (by kernel_rfl))
  f197 := Tryd.func42.trans (congrArg some (by kernel_rfl))
  f217 := Tryd.func19.trans (congrArg some (by kernel_rfl))
  f218 := Tryd.func43.trans (congrArg some (by kernel_rfl))
  f219 := Tryd.func32.trans (congrArg some (by kernel_rfl))
  f221 := Tryd.func20.trans (congrArg some (by kernel_rfl))
  f224 := Tryd.func45.trans (congrArg some (by kernel_rfl))
  f225 := Tryd.func44.trans (congrArg some (by kernel_rfl))
  f260 := Tryd.func49.trans (congrArg some (by kernel_rfl))
  f266 := Tryd.func28.trans (congrArg some (by kernel_rfl))
  f267 := Tryd.func46.trans (congrArg some (by kernel_rfl))
  f268 := Tryd.func29.trans (congrArg some (by kernel_rfl))
  f314 := Tryd.func50.trans (congrArg some (by kernel_rfl))
  t0 := Tryd.underlying0
  a0 := Tryd.isAgg0
  z0 := Tryd.sizeOf0
  v0 := Tryd.zeroValue0
  t3 := Tryd.underlying3
  a3 := Tryd.isAgg3
  z3 := Tryd.sizeOf3
  v3 := Tryd.zeroValue3
  t4 := Tryd.underlying4
  a4 := Tryd.isAgg4
  z4 := Tryd.sizeOf4
  v4 := Tryd.zeroValue4
  t5 := Tryd.underlying5
  a5 := Tryd.isAgg5
  z5 := Tryd.sizeOf5
  v5 := Tryd.zeroValue5
  t9 := Tryd.underlying9
  a9 := Tryd.isAgg9
  z9 := Tryd.sizeOf9
  v9 := Tryd.zeroValue9
  t21 := Tryd.underlying21
  a21 := Tryd.isAgg21
  z21 := Tryd.sizeOf21
  v21 := Tryd.zeroValue21
  t31 := Tryd.underlying57
  a31 := Tryd.isAgg57
  z31 := Tryd.sizeOf57
  v31 := Tryd.zeroValue57
  t46 := Tryd.underlying54
  a46 := Tryd.isAgg54
  z46 := Tryd.sizeOf54
  v46 := Tryd.zeroValue54
  t51 := Tryd.underlying83
  a51 := Tryd.isAgg83
  z51 := Tryd.sizeOf83
  v51 := Tryd.zeroValue83
  t105 := Tryd.underlying93
  a105 := Tryd.isAgg93
  z105 := Tryd.sizeOf93
  v105 := Tryd.zeroValue93
  t119 := Tryd.underlying66
  a119 := Tryd.isAgg66
  z119 := Tryd.sizeOf66
  t138 := Tryd.underlying113
  a138 := Tryd.isAgg113
  z138 := Tryd.sizeOf113
  v138 := Tryd.zeroValue113
  t139 := Tryd.underlying114
  a139 := Tryd.isAgg114
  z139 := Tryd.sizeOf114
  v139 := Tryd.zeroValue114
  t146 := Tryd.underlying108
  a146 := Tryd.isAgg108
  z146 := Tryd.sizeOf108
  v146 := Tryd.zeroValue108
  g1 := by kernel_rfl
  g3 := by kernel_rfl
  g4 := by kernel_rfl }
def layF_ren : Go.Shelf.Ren := ⟨fun | 157 => 16 | 229 => 22 | 199 => 23 | 261 => 33 | 311 => 47 | 312 => 48 | n => n, fun | 9 => 9 | 31 => 57 | 3 => 3 | 5 => 5 | 4 => 4 | 119 => 66 | 0 => 0 | 40 => 68 | 152 => 80 | 21 => 21 | 154 => 82 | 51 => 83 | 141 => 85 | 196 => 99 | 193 => 96 | 198 => 101 | 49 => 33 | 194 => 97 | 201 => 104 | 226 => 110 | 46 => 54 | 227 => 111 | n => n, fun | 0 => 0 | 6 => 1 | n => n⟩
theorem layF : Go.Proofs.Lays.n157 Tryd.prog layF_ren := {
  mixed := by kernel_rfl
  f157 := Tryd.func16.trans (congrArg some (by kernel_rfl))
  f199 := Tryd.func23.trans (congrArg some (by kernel_rfl))
  f229 := Tryd.func22.trans (congrArg some (by kernel_rfl))
  f261 := Tryd.func33.trans (congrArg some (by kernel_rfl))
  f311 := Tryd.func47.trans (congrArg some (by kernel_rfl))
  f312 := Tryd.func48.trans (congrArg some (by kernel_rfl))
  t0 := Tryd.underlying0
  a0 := Tryd.isAgg0
  z0 := Tryd.sizeOf0
  v0 := Tryd.zeroValue0
  t3 := Tryd.underlying3
  a3 := Tryd.isAgg3
  z3 := Tryd.sizeOf3
  v3 := Tryd.zeroValue3
  t4 := Tryd.underlying4
  a4 := Tryd.isAgg4
  z4 := Tryd.sizeOf4
  v4 := Tryd.zeroValue4
  t5 := Tryd.underlying5
  a5 := Tryd.isAgg5
  z5 := Tryd.sizeOf5
  v5 := Tryd.zeroValue5
  t9 := Tryd.underlying9
  a9 := Tryd.isAgg9
  z9 := Tryd.sizeOf9
  v9 := Tryd.zeroValue9
  t21 := Tryd.underlying21
  a21 := Tryd.isAgg21
  z21 := Tryd.sizeOf21
  v21 := Tryd.zeroValue21
  t31 := Tryd.underlying57
  a31 := Tryd.isAgg57
  z31 := Tryd.sizeOf57
  v31 := Tryd.zeroValue57
  t40 := Tryd.underlying68
  a40 := Tryd.isAgg68
  z40 := Tryd.sizeOf68
  v40 := Tryd.zeroValue68
  t46 := Tryd.underlying54
  a46 := Tryd.isAgg54
  z46 := Tryd.sizeOf54
  v46 := Tryd.zeroValue54
  t49 := Tryd.underlying33
  a49 := Tryd.isAgg33
  z49 := Tryd.sizeOf33
  v49 := Tryd.zeroValue33
  t51 := Tryd.underlying83
  a51 := Tryd.isAgg83
  z51 := Tryd.sizeOf83
  v51 := Tryd.zeroValue83
  t119 := Tryd.underlying66
  a119 := Tryd.isAgg66
  z119 := Tryd.sizeOf66
  t141 := Tryd.underlying85
  a141 := Tryd.isAgg85
  z141 := Tryd.sizeOf85
  v141 := Tryd.zeroValue85
  t152 := Tryd.underlying80
  a152 := Tryd.isAgg80
  z152 := Tryd.sizeOf80
  v152 := Tryd.zeroValue80
  t154 := Tryd.underlying82
  a154 := Tryd.isAgg82
  z154 := Tryd.sizeOf82
  v154 := Tryd.zeroValue82
  t193 := Tryd.underlying96
  a193 := Tryd.isAgg96
  z193 := Tryd.sizeOf96
  v193 := Tryd.zeroValue96
  t194 := Tryd.underlying97
  a194 := Tryd.isAgg97
  z194 := Tryd.sizeOf97
  v194 := Tryd.zeroValue97
  t196 := Tryd.underlying99
  a196 := Tryd.isAgg99
  z196 := Tryd.sizeOf99
  v196 := Tryd.zeroValue99
  t198 := Tryd.underlying101
  a198 := Tryd.isAgg101
  z198 := Tryd.sizeOf101
  v198 := Tryd.zeroValue101
  t201 := Tryd.underlying104
  a201 := Tryd.isAgg104
  z201 := Tryd.sizeOf104
  v201 := Tryd.zeroValue104
  t226 := Tryd.underlying110
  a226 := Tryd.isAgg110
  z226 := Tryd.sizeOf110
  v226 := Tryd.zeroValue110
  t227 := Tryd.underlying111
  a227 := Tryd.isAgg111
  z227 := Tryd.sizeOf111
  v227 := Tryd.zeroValue111
  g0 := by kernel_rfl
  g6 := by kernel_rfl }
def layC_ren : Go.Shelf.Ren := ⟨fun | 145 => 15 | 220 => 21 | 219 => 32 | 217 => 19 | 225 => 44 | 224 => 45 | 267 => 46 | 266 => 28 | 314 => 50 | n => n, fun | 9 => 9 | 4 => 4 | 59 => 59 | 3 => 3 | 5 => 5 | 46 => 54 | 146 => 108 | 51 => 83 | n => n, fun | 1 => 2 | n => n⟩
theorem layC : Go.Proofs.Lays.n145 Tryd.prog layC_ren := {
  mixed := by kernel_rfl
  f145 := Tryd.func15.trans (congrArg some (by kernel_rfl))
  f217 := Tryd.func19.trans (congrArg some (by kernel_rfl))
  f219 := Tryd.func32.trans (congrArg some (by kernel_rfl))
  f220 := Tryd.func21.trans (congrArg some (by kernel_rfl))
  f224 := Tryd.func45.trans (congrArg some (by kernel_rfl))
  f225 := Tryd.func44.trans (congrArg some (by kernel_rfl))
  f266 := Tryd.func28.trans (congrArg some (by kernel_rfl))
  f267 := Tryd.func46.trans (congrArg some (by kernel_rfl))
  f314 := Tryd.func50.trans (congrArg some (by kernel_rfl))
  t3 := Tryd.underlying3
  a3 := Tryd.isAgg3
  z3 := Tryd.sizeOf3
  v3 := Tryd.zeroValue3
  t4 := Tryd.underlying4
  a4 := Tryd.isAgg4
  z4 := Tryd.sizeOf4
  v4 := Tryd.zeroValue4
  t5 := Tryd.underlying5
  a5 := Tryd.isAgg5
  z5 := Tryd.sizeOf5
  v5 := Tryd.zeroValue5
  t9 := Tryd.underlying9
  a9 := Tryd.isAgg9
  z9 := Tryd.sizeOf9
  v9 := Tryd.zeroValue9
  t46 := Tryd.underlying54
  a46 := Tryd.isAgg54
  z46 := Tryd.sizeOf54
  v46 := Tryd.zeroValue54
  t51 := Tryd.underlying83
  a51 := Tryd.isAgg83
  z51 := Tryd.sizeOf83
  v51 := Tryd.zeroValue83
  t59 := Tryd.underlying59
  a59 := Tryd.isAgg59
  z59 := Tryd.sizeOf59
  v59 := Tryd.zeroValue59
  t146 := Tryd.underlying108
  a146 := Tryd.isAgg108
  z146 := Tryd.sizeOf108
  v146 := Tryd.zeroValue108
  g1 := by kernel_rfl }

/-- What the library's variables hold. -/
structure Glob (w : World) : Prop where
  m : ∃ m, w.cell? ⟨2, 0, none⟩ = some (.int .i64 m)
  t : ∀ c : Nat, c < 256 → w.cell? ⟨0, c, none⟩ = some (.int .u8 (if Lib.isSp (UInt8.ofNat c) then 1 else 0))
theorem Glob.fr {w w' : World} (h : Glob w) (hF : Fr Nil w w') : Glob w' := by
  obtain ⟨⟨m, hm⟩, ht⟩ := h
  exact ⟨⟨m, cell_fr hF (fun e => e) hm⟩, fun c hc => cell_fr hF (fun e => e) (ht c hc)⟩
theorem Vw.glob {w0 : World} {L : List Fa} (h : At (old w0) L) (hg : Glob w0) : Vw L Glob := fun _ hw => hg.fr (hw.old_fr h)
def lineL (l : List UInt8) : List ByteArray := Lib.splitB ⟨#[10]⟩ 0 (Lib.countB (sOf l) ⟨#[10]⟩) (sOf l)
theorem lineL_len (l : List UInt8) : (lineL l).length = Lib.countB (sOf l) ⟨#[10]⟩ + 1 := Lib.splitB_all ⟨#[10]⟩ (by decide) 0 _ _ rfl
theorem split_ok {K : List Fa} (hg : Vw K Glob) (l : List UInt8) (hl : l.length ≤ 1048576) :
    Fn Tryd.prog 14 #[.string (sOf l), .string ⟨#[10]⟩] K (Ret (fun _ : Nat => True) (fun g => .slice (some ⟨g, 0, none⟩) (lineL l).length (lineL l).length) (fun g => blk g 9 ((lineL l).map Value.string) :: K)) := by
  unfold Fn
  intro w hw
  obtain ⟨⟨m, hm⟩, _⟩ := hg w hw
  refine (Any.strings_Split layS (by kernel_rfl) (sOf l) ⟨#[10]⟩ m w (by rw [sOf_size]; omega) hm (by decide)).mono ?_
  rintro e w' ⟨rfl, rfl⟩
  refine ⟨w.heap.size, trivial, by rw [lineL_len], ?_⟩
  exact hw.newBlk ((Fr.refl Nil w).alloc _) (Blk.new w _ _)
theorem cut_ok {K : List Fa} (hg : Vw K Glob) (l : List UInt8) (hl : l.length ≤ 1048576) :
    Fn Tryd.prog 15 #[.string (sOf l), .string ⟨#[35]⟩] K (Ret (fun _ : Unit => True) (fun _ => .tuple #[.string (sOf (Lib.cut l [35]).1), .string (sOf (Lib.cut l [35]).2.1), .bool (Lib.cut l [35]).2.2]) (fun _ => K)) := by
  unfold Fn
  intro w hw
  obtain ⟨⟨m, hm⟩, _⟩ := hg w hw
  refine (Any.strings_Cut layC (sOf l) ⟨#[35]⟩ m w (by rw [sOf_size]; omega) hm).mono ?_
  rintro e w' ⟨rfl, n, rfl⟩
  refine ⟨(), trivial, rfl, ?_⟩
  exact hw.nil ((Fr.refl Nil w).drewN n)
theorem fields_ok {K : List Fa} (hg : Vw K Glob) (l : List UInt8) (hl : l.length ≤ 1048576) (ha : ∀ b ∈ l, b.toNat < 128) :
    Fn Tryd.prog 16 #[.string (sOf l)] K (Ret (fun _ : Nat => True) (fun g => .slice (some ⟨g, 0, none⟩) (Lib.fields l).length (Lib.fields l).length) (fun g => blk g 9 ((Lib.fields l).map encW) :: K)) := by
  unfold Fn
  intro w hw
  obtain ⟨_, ht⟩ := hg w hw
  refine (Any.strings_Fields_core layF (by kernel_rfl) (sOf l) w (by rw [sOf_size]; omega) (fun j b hj => ha b (List.mem_of_getElem? hj)) ht).mono ?_
  rintro e w' ⟨rfl, rfl⟩
  refine ⟨w.heap.size, trivial, rfl, ?_⟩
  exact hw.newBlk ((Fr.refl Nil w).alloc _) (Blk.new w _ _)
end Go.Proofs.YtfnjeojaahnlfaaDoor
