/- The fixed fact of chapter 16; a nil disk. -/
import Derived.Test.YtemhhhikopemmaaDk9
import Derived.Test.YtemhhhikopemmaaDk5
import Derived.Test.YtemhhhikopemmaaLit
namespace Go.Proofs.Ytemhhhikopemmaa
open Go.RowKit Go.MapKept
attribute [local irreducible] Go.Calls Go.Exit.then Go.Exit.inBlock Go.bodyPost Go.Code.wp Go.wpList
def sa : ByteArray := ⟨#[97]⟩
theorem dhas_nil {s : ByteArray} : ¬ DHas [] s := fun ⟨_, h, _⟩ => by cases h
theorem nth_Dka {φ : Prop} (h : φ := by (first | rfl | assumption)) : φ := h
theorem mid_Dka {φ : Prop} (h : φ := by (first | exact Mid.all | exact Mid.all | exact Mid.head)) : φ := h
theorem sz_Dka {φ : Prop} (h : φ := by (first | rfl | (rfl; first | done | fail))) : φ := h
theorem one_Dka {φ : Prop} (h : φ := by (first | assumption | exact first | exact one_bytes _ | exact ff_one | (simp only [List.mem_cons, List.not_mem_nil, or_false, forall_eq_or_imp, forall_eq]; decide) | exact one_bytes _)) : φ := h
theorem set_Dka {φ : Prop} (h : φ := by (first | (fail) | ((repeat (first | exact SetAt.here | apply SetAt.there)); first | done | fail))) : φ := h
theorem cl_Dka {φ : Prop} (h : φ := by first | rfl | exact .t | exact .f | exact .t (by omega) | exact .f (by omega) | exact .u | exact .i (by (first | exact .t (by omega) | exact .f (by omega) | exact .u | exact .i (by omega) | exact .v (by omega) | exact .b (by omega) | exact .w | rfl | omega)) | exact .v (by omega) | exact .b (by omega) | exact .q (by omega) | exact .w | exact .b (by exact at_) rfl (by exact nth_Dka) | exact .w (by exact at_) rfl rfl (by exact sz_Dka) | exact .s (by exact at_) (by exact mid_Dka) rfl rfl (by exact sz_Dka) | exact .z rfl rfl ⟨by kernel_rfl⟩ | exact .b rfl rfl ⟨by kernel_rfl⟩ | exact .a rfl rfl ⟨by kernel_rfl⟩ | exact .o rfl | exact .s | exact .n | exact .p rfl | exact .q rfl | exact .c rfl | exact .d rfl | exact .n rfl rfl (by omega) | exact .a rfl rfl (by omega) | exact .p rfl rfl (by omega) (by omega) | exact .y rfl rfl (by omega) (by omega) | exact .o (by exact at_) (by omega) rfl (by exact nth_Dka) | exact .m (by exact at_) (by omega) (by exact mid_Dka) rfl rfl (by exact sz_Dka) | exact .mlen (by exact at_) rfl | exact .t (by exact at_) rfl rfl (by first | exact True.intro | rfl) (by assumption) | exact .f (by exact at_) rfl rfl (by first | exact True.intro | rfl) (by assumption) rfl | exact .t1 (by exact at_) rfl rfl (by first | exact True.intro | rfl) (by assumption) | exact .f1 (by exact at_) rfl rfl (by first | exact True.intro | rfl) (by assumption) rfl | exact .r rfl rfl (by omega) (by omega) (by exact nth_Dka) rfl | exact .s rfl (by omega) (by assumption) | exact at_ | assumption | exact .r rfl rfl | exact .h rfl rfl rfl (by omega) | exact .l rfl rfl rfl (by omega) (by omega) | exact .g rfl rfl rfl rfl (by omega) (by omega) | exact .h rfl rfl (toN_ (by omega)) (by omega) | exact .l rfl rfl (toN_ (by omega)) (by omega) (by omega) | exact .g rfl rfl (toN_ (by omega)) (toN_ (by omega)) (by omega) (by omega) | exact .o (by decide) | exact .f (by decide) | exact .n (by omega) (by first | decide | (show _ ≤ ((64 : Nat) : Int); omega)) | (constructor; (repeat (first | exact .t (by omega) | exact .f (by omega) | exact .u | exact .i (by omega) | exact .v (by omega) | exact .b (by omega) | exact .w | rfl | omega)); first | done | fail) | omega | (show _ ≤ ((64 : Nat) : Int); omega)) : φ := h
theorem pv_Dka {φ : Prop} (h : φ := by constructor; (repeat exact cl_Dka); first | done | fail) : φ := h
theorem su_Dka {φ ψ : Prop} (k : ψ) (h : Hide ψ → φ := by (intro k; (first | refine sl_pu (PuI.sep (by exact pv_Dka)) rfl ?_ | refine sl_yes rfl rfl ?_ | refine sl_no rfl rfl rfl ?_ | refine sl_off rfl rfl rfl ?_); exact k.out)) : φ := h ⟨k⟩
theorem rq_Dka {φ ψ : Prop} (k : ψ) (h : Hide ψ → φ := by (intro k; (first | refine wq_pu (PuI.sep (by exact pv_Dka)) rfl ?_ | refine wq_yes rfl rfl ?_ | refine wq_no rfl rfl rfl ?_ | refine wq_off rfl rfl rfl ?_); exact k.out)) : φ := h ⟨k⟩
theorem sto_Dka {φ ψ : Prop} (k : ψ) (h : Hide ψ → φ := by (intro k; (first | refine sl_store rfl (by exact pick_) rfl rfl (by kernel_rfl) (by exact set_Dka) ?_ | refine sl_store_whole rfl (by exact pick_) rfl (by exact sz_Dka) (by exact sz_Dka) (by exact one_Dka) ?_); exact k.out)) : φ := h ⟨k⟩
theorem go_Dka {φ ψ : Prop} (k : ψ) (h : Hide ψ → φ := by (intro k; (repeat (first | refine su_Dka ?_ | refine so_ ?_ | refine sto_Dka ?_)); exact k.out)) : φ := h ⟨k⟩
set_option maxRecDepth 100000 in
set_option maxHeartbeats 2000000 in
theorem awake16 {K : List Fa} :
    Fn Try.prog 27 #[] K (Ret (fun _ : Unit => True) (fun _ => .bool true) (fun _ => K)) := by
  refine fn_enter Try.func27 rfl _ Try.ntmps27 (by simp) [] (args_of (by simp)) ?_
  refine go_Dka ?_
  refine sl_call rfl rfl (by kernel_rfl) rfl Sub.refl newD_ok ?_
  rintro ⟨g, m⟩ -
  dsimp only
  rw [show limL 100 = 100 by rfl]
  refine go_Dka ?_
  refine sl_build (size := 1) (e := 5) (cells := bytes [120, 121]) rfl (fun W => by kernel_rfl) rfl (by decide) rfl ?_
  intro g1
  refine go_Dka ?_
  refine sl_mark rfl (by exact pick_) rfl rfl rfl ?_
  refine go_Dka ?_
  have hc := appD_new (s := sa) (b := [120, 121]) (cb := 2) (fs := []) (g := g) (m := m) (ck := 0) (lim := 100) (K := lit 5 g1 (bytes [120, 121]) :: K) (by decide) (by decide) dhas_nil (by decide) (by decide) (by decide) (lit_vw (by exact at_))
  refine sl_call rfl rfl (by kernel_rfl) rfl (by exact sub_) hc ?_
  clear hc
  rintro ⟨A1, c1⟩ -
  refine go_Dka ?_
  refine sl_call rfl rfl (by kernel_rfl) rfl Sub.refl (syncD_ok (X := []) (Y := []) (f := ⟨sa, A1, c1, [120, 121], 0, 0⟩) (g := g) (m := m) (ck := 1) (lim := 100)) ?_
  rintro _ -
  rw [← ds_sy (X := []) (Y := []) (k := 2)]
  refine go_Dka ?_
  refine sl_build (size := 1) (e := 5) (cells := bytes [122, 122]) rfl (fun W => by kernel_rfl) rfl (by decide) rfl ?_
  intro g2
  refine go_Dka ?_
  refine sl_mark rfl (by exact pick_) rfl rfl rfl ?_
  refine go_Dka ?_
  have hc := appD_yes (X := []) (Y := []) (f := ⟨sa, A1, c1, [120, 121], 2, 0⟩) (b := [122, 122]) (cb := 2) (g := g) (m := m) (ck := 1) (lim := 100) (K := lit 5 g2 (bytes [122, 122]) :: K) (show sa.size ≤ _ by decide) (show nameB sa = true by decide) (by decide) (by simp [usedN]) (lit_vw (by exact at_))
  refine sl_call rfl rfl (by kernel_rfl) rfl (by exact sub_) hc ?_
  clear hc
  rintro ⟨A2, c2⟩ -
  refine go_Dka ?_
  refine sl_call rfl rfl (by kernel_rfl) rfl Sub.refl (crashD_ok (fs := [⟨sa, A2, c2, [120, 121, 122, 122], 2, 0⟩]) (g := g) (m := m) (ck := 1) (lim := 100) (keep := 1) (by simp) (by intro f hf; rw [List.mem_singleton] at hf; subst hf; simp)) ?_
  rintro fs hfs
  obtain ⟨f, rest, rfl, hf, hr⟩ := List.map_eq_cons_iff.1 hfs
  obtain rfl : rest = [] := List.map_eq_nil_iff.1 hr
  have h1 : f.s = sa := congrArg Fi.s hf
  have h2 : f.l = [120, 121, 122] := congrArg Fi.l hf
  have hrd := readD_ok (K := dB g m 100 :: dM m [f] 1 :: dS [f] :: lit 5 g2 (bytes [122, 122]) :: K) (g := g) (m := m) (ck := 1) (lim := 100) (fs := [f]) (f := f) (by exact at_) (by exact at_) (by exact at_) (List.mem_singleton.2 rfl) (by rw [h2]; decide)
  rw [h1, h2] at hrd
  refine go_Dka ?_
  refine sl_call rfl rfl (by kernel_rfl) rfl (by exact sub_) hrd ?_
  rintro ⟨A3, c3⟩ -
  refine go_Dka ?_
  refine sl_pu (pu_strv (Vw.of_own (c := c3) (e := 5) (by exact at_)) rfl rfl rfl rfl) rfl ?_
  refine go_Dka ?_
  exact se_ret1 () trivial rfl rfl (by exact sub_)
set_option maxRecDepth 100000 in
set_option maxHeartbeats 2000000 in
theorem lawNone_ok {K : List Fa} {s : ByteArray} {A : Option Addr} {n c : Nat} {k : Int} (hn : n ≤ 9223372036854775807) :
    Fn Try.prog 9 #[.string s, .slice A n c, .int .i64 k] K (Ret (fun _ : Unit => True) (fun _ => .bool true) (fun _ => K)) := by
  refine fn_enter Try.func9 rfl _ Try.ntmps9 (by simp) [(0, .string s), (1, .slice A n c), (2, .int .i64 k)] (args_of (by simp)) ?_
  refine go_Dka ?_
  refine sl_call rfl rfl (by kernel_rfl) rfl Sub.refl awake16 ?_
  rintro _ -
  by_cases h100 : 100 < n
  · refine go_Dka ?_
    exact se_ret1 () trivial rfl rfl (by exact sub_)
  refine go_Dka ?_
  refine sl_call rfl rfl (by kernel_rfl) rfl Sub.refl nilCrash ?_
  rintro _ -
  refine go_Dka ?_
  refine sl_call rfl rfl (by kernel_rfl) rfl Sub.refl nilRead ?_
  rintro _ -
  refine go_Dka ?_
  refine sl_call rfl rfl (by kernel_rfl) rfl Sub.refl nilAppend ?_
  rintro _ -
  refine go_Dka ?_
  refine sl_call rfl rfl (by kernel_rfl) rfl Sub.refl nilSync ?_
  rintro _ -
  refine go_Dka ?_
  refine sl_call rfl rfl (by kernel_rfl) rfl Sub.refl nilCut ?_
  rintro _ -
  refine go_Dka ?_
  refine sl_call rfl rfl (by kernel_rfl) rfl Sub.refl nilTurn ?_
  rintro _ -
  refine go_Dka ?_
  refine sl_call rfl rfl (by kernel_rfl) rfl Sub.refl nilLoose ?_
  rintro _ -
  refine go_Dka ?_
  refine sl_call rfl rfl (by kernel_rfl) rfl Sub.refl nilUsed ?_
  rintro _ -
  refine go_Dka ?_
  refine sl_call rfl rfl (by kernel_rfl) rfl Sub.refl nilNames ?_
  rintro _ -
  refine go_Dka ?_
  refine sl_call rfl rfl (by kernel_rfl) rfl Sub.refl nilCopy ?_
  rintro _ -
  refine go_Dka ?_
  exact se_ret1 () trivial rfl rfl (by exact sub_)
end Go.Proofs.Ytemhhhikopemmaa
