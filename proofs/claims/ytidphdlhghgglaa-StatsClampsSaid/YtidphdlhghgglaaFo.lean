/- The shelf's contract of slices.SortFunc at floats, laid at this program (printed by the kit's lay-plain), and over facts: numbers in their order. -/
import Derived.Test.YtidphdlhghgglaaSrt
import Derived.Test.YtidphdlhghgglaaFl
namespace Go.Proofs.Ytidphdlhghgglaa
open Go.Shelf Go.Sort Go.RowKit
def sortF_ren : Go.Shelf.Ren := ⟨fun | 6 => 26 | 15 => 41 | 14 => 40 | 28 => 55 | 29 => 56 | 20 => 47 | 21 => 48 | 22 => 49 | 23 => 50 | 24 => 51 | 25 => 52 | 26 => 53 | 27 => 54 | 46 => 59 | 47 => 60 | 48 => 61 | 49 => 62 | 50 => 63 | 57 => 66 | n => n, fun | 22 => 22 | 24 => 24 | 25 => 65 | 3 => 3 | 39 => 53 | 0 => 0 | 53 => 88 | 55 => 50 | 4 => 4 | 46 => 82 | 45 => 81 | 50 => 69 | 5 => 5 | 9 => 9 | 66 => 92 | 70 => 96 | 76 => 99 | 77 => 100 | n => n, fun | n => n⟩
theorem sortF : Go.Proofs.SlLaysF.n6 Try.prog sortF_ren := {
  mixed := by kernel_rfl
  f6 := ⟨Try.f26.name, by decide, Try.func26.trans (congrArg some (by kernel_rfl))⟩
  f14 := ⟨Try.f40.name, by decide, Try.func40.trans (congrArg some (by kernel_rfl))⟩
  f15 := Try.func41.trans (congrArg some (by kernel_rfl))
  f20 := ⟨Try.f47.name, by decide, Try.func47.trans (congrArg some (by kernel_rfl))⟩
  f21 := ⟨Try.f48.name, by decide, Try.func48.trans (congrArg some (by kernel_rfl))⟩
  f22 := ⟨Try.f49.name, by decide, Try.func49.trans (congrArg some (by kernel_rfl))⟩
  f23 := ⟨Try.f50.name, by decide, Try.func50.trans (congrArg some (by kernel_rfl))⟩
  f24 := ⟨Try.f51.name, by decide, Try.func51.trans (congrArg some (by kernel_rfl))⟩
  f25 := ⟨Try.f52.name, by decide, Try.func52.trans (congrArg some (by kernel_rfl))⟩
  f26 := ⟨Try.f53.name, by decide, Try.func53.trans (congrArg some (by kernel_rfl))⟩
  f27 := ⟨Try.f54.name, by decide, Try.func54.trans (congrArg some (by kernel_rfl))⟩
  f28 := Try.func55.trans (congrArg some (by kernel_rfl))
  f29 := Try.func56.trans (congrArg some (by kernel_rfl))
  f46 := ⟨Try.f59.name, by decide, Try.func59.trans (congrArg some (by kernel_rfl))⟩
  f47 := Try.func60.trans (congrArg some (by kernel_rfl))
  f48 := Try.func61.trans (congrArg some (by kernel_rfl))
  f49 := ⟨Try.f62.name, by decide, Try.func62.trans (congrArg some (by kernel_rfl))⟩
  f50 := ⟨Try.f63.name, by decide, Try.func63.trans (congrArg some (by kernel_rfl))⟩
  f57 := ⟨Try.f66.name, by decide, Try.func66.trans (congrArg some (by kernel_rfl))⟩
  t0 := Try.underlying0
  a0 := Try.isAgg0
  z0 := Try.sizeOf0
  v0 := Try.zeroValue0
  t3 := Try.underlying3
  a3 := Try.isAgg3
  z3 := Try.sizeOf3
  v3 := Try.zeroValue3
  t4 := Try.underlying4
  a4 := Try.isAgg4
  z4 := Try.sizeOf4
  v4 := Try.zeroValue4
  t5 := Try.underlying5
  a5 := Try.isAgg5
  z5 := Try.sizeOf5
  v5 := Try.zeroValue5
  t9 := Try.underlying9
  a9 := Try.isAgg9
  z9 := Try.sizeOf9
  v9 := Try.zeroValue9
  t22 := Try.underlying22
  a22 := Try.isAgg22
  z22 := Try.sizeOf22
  v22 := Try.zeroValue22
  a24 := Try.isAgg24
  z24 := Try.sizeOf24
  t25 := Try.underlying65
  a25 := Try.isAgg65
  z25 := Try.sizeOf65
  v25 := Try.zeroValue65
  t39 := Try.underlying53
  a39 := Try.isAgg53
  z39 := Try.sizeOf53
  v39 := Try.zeroValue53
  t45 := Try.underlying81
  a45 := Try.isAgg81
  z45 := Try.sizeOf81
  v45 := Try.zeroValue81
  t46 := Try.underlying82
  a46 := Try.isAgg82
  z46 := Try.sizeOf82
  v46 := Try.zeroValue82
  t50 := Try.underlying69
  a50 := Try.isAgg69
  z50 := Try.sizeOf69
  v50 := Try.zeroValue69
  t53 := Try.underlying88
  a53 := Try.isAgg88
  z53 := Try.sizeOf88
  v53 := Try.zeroValue88
  t55 := Try.underlying50
  a55 := Try.isAgg50
  z55 := Try.sizeOf50
  v55 := Try.zeroValue50
  t66 := Try.underlying92
  a66 := Try.isAgg92
  z66 := Try.sizeOf92
  v66 := Try.zeroValue92
  t70 := Try.underlying96
  a70 := Try.isAgg96
  z70 := Try.sizeOf96
  v70 := Try.zeroValue96
  t76 := Try.underlying99
  a76 := Try.isAgg99
  z76 := Try.sizeOf99
  v76 := Try.zeroValue99
  t77 := Try.underlying100
  a77 := Try.isAgg100
  z77 := Try.sizeOf100
  v77 := Try.zeroValue100 }
/-- A float that is a number. -/
structure Fp where
  x : Nat
  nn : fnan x = false
  lt : x < 18446744073709551616
instance : Inhabited Fp := ⟨⟨0, by rw [fnan_eq]; rfl, by decide⟩⟩
def Fp.v (f : Fp) : Value := .float .f64 f.x
def cmpF (a b : Fp) : Int := ordF a.x b.x
theorem lt_cmp (a b : Fp) : ltOf cmpF a b = decide (key a.x < key b.x) := by
  unfold ltOf cmpF
  rw [ordF_of a.nn b.nn]
  by_cases h : key a.x < key b.x
  · rw [if_pos h, decide_eq_true h]
    rfl
  · by_cases h2 : key a.x = key b.x
    · rw [if_neg h, if_pos h2, decide_eq_false h]
      rfl
    · rw [if_neg h, if_neg h2, decide_eq_false h]
      rfl
theorem swo_cmp : SWO (ltOf cmpF) where
  irrefl x := by rw [lt_cmp]; simp
  trans x y z h1 h2 := by rw [lt_cmp] at *; simp at *; omega
  ntrans x y z h1 h2 := by rw [lt_cmp] at *; simp at *; omega
theorem one_fp (f : Fp) : f.v.oneCell' = true := rfl
theorem enters_ord : ∀ args w, (callFunc 27 args).run Try.prog w = .ok (.enter 27 args) w := fun args w => by kernel_rfl
theorem reads_ord (blk off size : Nat) (w : World) : CmpReads Try.prog 27 #[] Fp.v cmpF blk off size w := fun _ _ _ _ x y => (ord_c x.x y.x x.lt y.lt _).mono fun _ _ h => ⟨h.1, 0, h.2⟩
theorem sortf_ok {K : List Fa} {A : Option Addr} {c : Nat} {ds : List Fp} (hn : ds.length ≤ 1000000) :
    Fn Try.prog 26 #[.slice A ds.length c, .func (.func 27) #[] #[]] (own 24 1 A ds.length c (ds.map Fp.v) :: K) (Ret (fun d : List Fp => d.Perm ds ∧ d.Pairwise (fun a b => key a.x ≤ key b.x)) (fun _ => .tuple #[]) (fun d => own 24 1 A ds.length c (d.map Fp.v) :: K)) := by
  rcases Nat.eq_zero_or_pos ds.length with h0 | h0
  · obtain rfl : ds = [] := List.eq_nil_of_length_eq_zero h0
    unfold Fn
    intro w hw
    have hnone := AnyF.slices_SortFunc_none (L := { sortF with }) A c (.func (.func 27) #[] #[]) w
    refine hnone.mono ?_
    rintro x w' ⟨rfl, rfl⟩
    exact ⟨[], ⟨.refl _, .nil⟩, rfl, hw⟩
  · unfold Fn
    intro w hw
    obtain ⟨g, cap, hv, _, _⟩ := World.ownsRow.form (show w.ownsRow 0 24 1 (.slice A ds.length c) ds.length (ds.map Fp.v) from by have := hw.hd; unfold own at this; exact this) h0
    obtain rfl : A = some ⟨g, 0, none⟩ := by injection hv
    have h1 : (ds.map Fp.v) = ds.toArray.toList.map Fp.v := by simp
    rw [h1] at hw
    obtain ⟨hH, hg, _, _, hS⟩ := sep_sorted hw
    have hcon := Any.slices_SortFunc sortF Fp.v one_fp cmpF swo_cmp 27 #[] g 0 c ds.toArray w enters_ord (reads_ord g 0 _ w).lays hH hg (by simp; omega)
    rw [List.size_toArray] at hcon
    refine hcon.mono ?_
    rintro x w' ⟨rfl, d', m, os, hp, hs, rfl⟩
    obtain ⟨hsz, _, hperm⟩ := hp
    have e1 : d'.extract 0 ds.length = d' := by rw [← List.size_toArray, ← hsz]; exact Array.extract_size
    rw [e1, ← List.size_toArray, Array.extract_size] at hperm
    refine ⟨d'.toList, ⟨hperm, ?_⟩, rfl, hS d' m os hsz⟩
    rw [List.pairwise_iff_getElem]
    intro i j hi hj hij
    rw [Array.length_toList] at hi hj
    have h2 := hs i j (Nat.zero_le _) hij (by rw [← List.size_toArray, ← hsz]; exact hj)
    rw [lt_cmp, getElem!_pos d' i hi, getElem!_pos d' j hj] at h2
    simp only [decide_eq_false_iff_not] at h2
    simp only [Array.getElem_toList]
    omega
end Go.Proofs.Ytidphdlhghgglaa
