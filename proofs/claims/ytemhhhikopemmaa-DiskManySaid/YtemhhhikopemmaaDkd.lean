/- DiskMany: its walk. -/
import Derived.Test.YtemhhhikopemmaaDkb
namespace Go.Proofs.Ytemhhhikopemmaa
open Go.RowKit Go.MapKept
attribute [local irreducible] Go.Calls Go.Exit.then Go.Exit.inBlock Go.bodyPost Go.Code.wp Go.wpList
def nmF (i : Nat) : ByteArray := strOfNums ([102] ++ [97 + (i : Int) / 26, 97 + (i : Int) % 26])
set_option maxRecDepth 100000 in
theorem nmF_ok : ∀ i, i < 80 → nameB (nmF i) = true := by decide +kernel
theorem nmF_inj {i j : Nat} (hi : i < 80) (hj : j < 80) (h : nmF i = nmF j) : i = j := by
  have h1 := strOfNums_inj (p := [102] ++ [97 + (i : Int) / 26, 97 + (i : Int) % 26]) (q := [102] ++ [97 + (j : Int) / 26, 97 + (j : Int) % 26]) (by intro x hx; simp at hx; omega) (by intro x hx; simp at hx; omega) h
  simp at h1
  omega
theorem nmF_size (i : Nat) : (nmF i).size = 3 := by
  unfold nmF
  rw [strOfNums_size]
  rfl
theorem used_zero : ∀ {fs : List DF}, (∀ f ∈ fs, f.l = []) → usedN fs = 0
  | [], _ => rfl
  | f :: r, h => by
    rw [used_cons, h f (List.mem_cons_self ..), used_zero (fs := r) (fun x hx => h x (List.mem_cons_of_mem _ hx))]
    rfl
structure Ms where
  i : Nat
  fs : List DF
  ck : Nat
theorem nth_Dkd {φ : Prop} (h : φ := by (first | rfl | assumption)) : φ := h
theorem mid_Dkd {φ : Prop} (h : φ := by (first | exact Mid.all | exact Mid.all | exact Mid.head)) : φ := h
theorem sz_Dkd {φ : Prop} (h : φ := by (first | rfl | (rfl; first | done | fail))) : φ := h
theorem one_Dkd {φ : Prop} (h : φ := by (first | assumption | exact first | exact one_bytes _ | exact ff_one | (simp only [List.mem_cons, List.not_mem_nil, or_false, forall_eq_or_imp, forall_eq]; decide) | exact one_bytes _)) : φ := h
theorem set_Dkd {φ : Prop} (h : φ := by (first | (fail) | ((repeat (first | exact SetAt.here | apply SetAt.there)); first | done | fail))) : φ := h
theorem cl_Dkd {φ : Prop} (h : φ := by first | rfl | exact .t | exact .f | exact .t (by omega) | exact .f (by omega) | exact .u | exact .i (by (first | exact .t (by omega) | exact .f (by omega) | exact .u | exact .i (by omega) | exact .v (by omega) | exact .b (by omega) | exact .w | rfl | omega)) | exact .v (by omega) | exact .b (by omega) | exact .q (by omega) | exact .w | exact .b (by exact at_) rfl (by exact nth_Dkd) | exact .w (by exact at_) rfl rfl (by exact sz_Dkd) | exact .s (by exact at_) (by exact mid_Dkd) rfl rfl (by exact sz_Dkd) | exact .z rfl rfl ⟨by kernel_rfl⟩ | exact .b rfl rfl ⟨by kernel_rfl⟩ | exact .a rfl rfl ⟨by kernel_rfl⟩ | exact .o rfl | exact .s | exact .n | exact .p rfl | exact .q rfl | exact .c rfl | exact .d rfl | exact .n rfl rfl (by omega) | exact .a rfl rfl (by omega) | exact .p rfl rfl (by omega) (by omega) | exact .y rfl rfl (by omega) (by omega) | exact .o (by exact at_) (by omega) rfl (by exact nth_Dkd) | exact .m (by exact at_) (by omega) (by exact mid_Dkd) rfl rfl (by exact sz_Dkd) | exact .mlen (by exact at_) rfl | exact .t (by exact at_) rfl rfl (by first | exact True.intro | rfl) (by assumption) | exact .f (by exact at_) rfl rfl (by first | exact True.intro | rfl) (by assumption) rfl | exact .t1 (by exact at_) rfl rfl (by first | exact True.intro | rfl) (by assumption) | exact .f1 (by exact at_) rfl rfl (by first | exact True.intro | rfl) (by assumption) rfl | exact .r rfl rfl (by omega) (by omega) (by exact nth_Dkd) rfl | exact .s rfl (by omega) (by assumption) | exact at_ | assumption | exact .r rfl rfl | exact .h rfl rfl rfl (by omega) | exact .l rfl rfl rfl (by omega) (by omega) | exact .g rfl rfl rfl rfl (by omega) (by omega) | exact .h rfl rfl (toN_ (by omega)) (by omega) | exact .l rfl rfl (toN_ (by omega)) (by omega) (by omega) | exact .g rfl rfl (toN_ (by omega)) (toN_ (by omega)) (by omega) (by omega) | exact .o (by decide) | exact .f (by decide) | exact .n (by omega) (by first | decide | (show _ ≤ ((64 : Nat) : Int); omega)) | (constructor; (repeat (first | exact .t (by omega) | exact .f (by omega) | exact .u | exact .i (by omega) | exact .v (by omega) | exact .b (by omega) | exact .w | rfl | omega)); first | done | fail) | omega | (show _ ≤ ((64 : Nat) : Int); omega)) : φ := h
theorem pv_Dkd {φ : Prop} (h : φ := by constructor; (repeat exact cl_Dkd); first | done | fail) : φ := h
theorem su_Dkd {φ ψ : Prop} (k : ψ) (h : Hide ψ → φ := by (intro k; (first | refine sl_pu (PuI.sep (by exact pv_Dkd)) rfl ?_ | refine sl_yes rfl rfl ?_ | refine sl_no rfl rfl rfl ?_ | refine sl_off rfl rfl rfl ?_ | (fail)); exact k.out)) : φ := h ⟨k⟩
theorem rq_Dkd {φ ψ : Prop} (k : ψ) (h : Hide ψ → φ := by (intro k; (first | refine wq_pu (PuI.sep (by exact pv_Dkd)) rfl ?_ | refine wq_yes rfl rfl ?_ | refine wq_no rfl rfl rfl ?_ | refine wq_off rfl rfl rfl ?_ | (fail)); exact k.out)) : φ := h ⟨k⟩
theorem sto_Dkd {φ ψ : Prop} (k : ψ) (h : Hide ψ → φ := by (intro k; (first | refine sl_store rfl (by exact pick_) rfl rfl (by kernel_rfl) (by exact set_Dkd) ?_ | refine sl_store_whole rfl (by exact pick_) rfl (by exact sz_Dkd) (by exact sz_Dkd) (by exact one_Dkd) ?_); exact k.out)) : φ := h ⟨k⟩
theorem go_Dkd {φ ψ : Prop} (k : ψ) (h : Hide ψ → φ := by (intro k; (repeat (first | refine su_Dkd ?_ | refine so_ ?_ | refine sto_Dkd ?_)); exact k.out)) : φ := h ⟨k⟩
set_option maxRecDepth 100000 in
set_option maxHeartbeats 4000000 in
theorem lawMany_ok {K : List Fa} {z : Int} (hz : 0 ≤ z ∧ z ≤ 255) :
    Fn Try.prog 6 #[.int .u8 z] K (Ret (fun _ : Unit => True) (fun _ => .bool true) (fun _ => K)) := by
  refine fn_enter Try.func6 rfl _ Try.ntmps6 (by simp) [(0, .int .u8 z)] (args_of (by simp)) ?_
  refine go_Dkd ?_
  refine sl_call rfl rfl (by kernel_rfl) rfl Sub.refl awake16 ?_
  rintro _ -
  refine go_Dkd ?_
  refine sl_call rfl rfl (by kernel_rfl) rfl Sub.refl newD_ok ?_
  rintro ⟨g, m⟩ -
  dsimp only
  rw [show limL 1000 = 1000 by rfl]
  refine go_Dkd ?_
  obtain ⟨n, hn⟩ : ∃ n : Nat, z % 80 = n := ⟨(z % 80).toNat, by omega⟩
  rw [hn]
  refine sc_for (fun p : Ms => [(0, .int .u8 z), (3, .pointer (some ⟨g, 0, none⟩)), (11, .int .i64 n), (12, .int .i64 p.i)]) (fun p => dB g m 1000 :: dM m p.fs p.ck :: dS p.fs :: K) (fun p => p.i ≤ n ∧ p.fs.map DF.s = (List.range (min p.i 64)).map nmF ∧ ∀ f ∈ p.fs, f.l = []) (fun p => n - p.i) ⟨0, [], 0⟩ (by exact has_) (by exact sub_) ⟨Nat.zero_le _, rfl, fun _ h => by cases h⟩ ?_
  rintro ⟨i, fs, ck⟩ ⟨hi, hnm, hemp⟩
  dsimp only at hi hnm hemp ⊢
  have hfl : fs.length = min i 64 := by
    have := congrArg List.length hnm
    simpa using this
  have hu := used_zero hemp
  by_cases hlt : i < n
  · have hi80 : i < 80 := by omega
    have hno : ¬ (∃ f ∈ fs, f.s = nmF i) := fun ⟨f, hf, hs⟩ => by
      have h1 : f.s ∈ (List.range (min i 64)).map nmF := by rw [← hnm]; exact List.mem_map_of_mem hf
      obtain ⟨j, hj, hjs⟩ := List.mem_map.1 h1
      rw [List.mem_range] at hj
      have := nmF_inj (by omega) hi80 (hjs.trans hs)
      omega
    refine go_Dkd ?_
    refine sl_build (size := 1) (e := 5) (cells := bytes [97 + (i : Int) / 26, 97 + (i : Int) % 26]) rfl (fun W => by kernel_rfl) rfl (by decide) rfl ?_
    intro gb
    refine go_Dkd ?_
    refine sl_pu (pu_strv (bs := [97 + (i : Int) / 26, 97 + (i : Int) % 26]) (Vw.of_own (A := some ⟨gb, 0, none⟩) (c := 2) (e := 5) (by exact at_)) rfl rfl rfl rfl) rfl ?_
    refine go_Dkd ?_
    refine sl_pu (pu_add_bytes (p := [102]) (q := [97 + (i : Int) / 26, 97 + (i : Int) % 26]) rfl rfl (by simp)) rfl ?_
    rw [show strOfNums ([102] ++ [97 + (i : Int) / 26, 97 + (i : Int) % 26]) = nmF i from rfl]
    refine go_Dkd ?_
    refine sl_sub (L' := dB g m 1000 :: dM m fs ck :: dS fs :: K) (by exact sub_) ?_
    by_cases h64 : i < 64
    · refine sl_call rfl rfl (by kernel_rfl) rfl Sub.refl (appD_new (s := nmF i) (b := []) (fs := fs) (m := m) (ck := ck) (lim := 1000) (by rw [nmF_size]; decide) (nmF_ok i hi80) hno (by omega) (by decide) (by rw [hu]; decide) (fun w _ => Reads.nil_ _)) ?_
      rintro ⟨A1, c1⟩ -
      refine go_Dkd ?_
      refine se_round ⟨i + 1, fs ++ [⟨nmF i, A1, c1, [], 0, ck⟩], ck + 1⟩ (by exact has_) (by exact sub_) ⟨hlt, ?_, fun f hf => ?_⟩ (by show n - (i + 1) < n - i; omega)
      · show (fs ++ [_]).map DF.s = _
        rw [List.map_append, hnm, show min (i + 1) 64 = min i 64 + 1 by omega, List.range_succ, List.map_append, show min i 64 = i by omega]
        rfl
      · rcases List.mem_append.1 hf with h | h
        · exact hemp f h
        · rw [List.mem_singleton] at h
          rw [h]
    · refine sl_call rfl rfl (by kernel_rfl) rfl Sub.refl (appD_many (s := nmF i) (fs := fs) (m := m) (ck := ck) (lim := 1000) (by exact at_) (by exact at_) (by rw [nmF_size]; decide) (nmF_ok i hi80) hno (by omega)) ?_
      rintro _ -
      refine go_Dkd ?_
      refine se_round ⟨i + 1, fs, ck⟩ (by exact has_) (by exact sub_) ⟨hlt, ?_, hemp⟩ (by show n - (i + 1) < n - i; omega)
      show fs.map DF.s = _
      rw [hnm, show min (i + 1) 64 = min i 64 by omega]
  · obtain rfl : i = n := by omega
    refine go_Dkd ?_
    refine sl_call rfl rfl (by kernel_rfl) rfl Sub.refl (namesD_ok (fs := fs) (m := m) (ck := ck) (lim := 1000) (by exact at_) (by exact at_) (by omega)) ?_
    rintro ⟨A1, c1⟩ -
    dsimp only
    refine go_Dkd ?_
    exact se_ret1 () trivial rfl rfl (by exact sub_)
end Go.Proofs.Ytemhhhikopemmaa
