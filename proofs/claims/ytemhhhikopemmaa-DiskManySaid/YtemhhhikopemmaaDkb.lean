/- DiskKeeps: its walk. -/
import Derived.Test.YtemhhhikopemmaaDka
import Derived.Test.YtemhhhikopemmaaRaw
import Derived.Test.YtemhhhikopemmaaStr
namespace Go.Proofs.Ytemhhhikopemmaa
open Go.RowKit Go.MapKept
attribute [local irreducible] Go.Calls Go.Exit.then Go.Exit.inBlock Go.bodyPost Go.Code.wp Go.wpList
def sf : ByteArray := ⟨#[102]⟩
theorem pu_add_str2 {P : Program} {C : World → Prop} {n : Nat} {l : Env} {x y : Operand} {t t' ty : TypeId} {s u : ByteArray} (hx : ev l x = some (.string s)) (hy : ev l y = some (.string u)) (h : s.size + u.size ≤ 9223372036854775807) : Pu P C n l (.binOp .add t x y t') ty (.string (s ++ u)) := by
  unfold Pu
  intro a _ _ _ _ W hs _
  simp only [execOp, hs.ev hx, hs.ev hy]
  rw [Sem.run_bind, Sem.run_bind]
  simp [go_sem]
  exact h
theorem strs_app (p q : List Int) : strOfNums (p ++ q) = strOfNums p ++ strOfNums q := by
  apply ByteArray.ext
  rw [ByteArray.data_append]
  apply Array.ext'
  rw [Array.toList_append, strOfNums_data, strOfNums_data, strOfNums_data, List.map_append]
theorem pu_add_bytes {P : Program} {C : World → Prop} {n : Nat} {l : Env} {x y : Operand} {t t' ty : TypeId} {p q : List Int} (hx : ev l x = some (.string (strOfNums p))) (hy : ev l y = some (.string (strOfNums q))) (h : p.length + q.length ≤ 9223372036854775807) : Pu P C n l (.binOp .add t x y t') ty (.string (strOfNums (p ++ q))) := by
  rw [strs_app]
  exact pu_add_str2 hx hy (by rw [strOfNums_size, strOfNums_size]; exact h)
theorem nth_Dkb {φ : Prop} (h : φ := by (first | rfl | assumption)) : φ := h
theorem mid_Dkb {φ : Prop} (h : φ := by (first | exact Mid.all | exact Mid.all | exact Mid.head)) : φ := h
theorem sz_Dkb {φ : Prop} (h : φ := by (first | rfl | (rfl; first | done | fail))) : φ := h
theorem one_Dkb {φ : Prop} (h : φ := by (first | assumption | exact first | exact one_bytes _ | exact ff_one | (simp only [List.mem_cons, List.not_mem_nil, or_false, forall_eq_or_imp, forall_eq]; decide) | exact one_bytes _)) : φ := h
theorem set_Dkb {φ : Prop} (h : φ := by (first | (fail) | ((repeat (first | exact SetAt.here | apply SetAt.there)); first | done | fail))) : φ := h
theorem cl_Dkb {φ : Prop} (h : φ := by first | rfl | exact .t | exact .f | exact .t (by omega) | exact .f (by omega) | exact .u | exact .i (by (first | exact .t (by omega) | exact .f (by omega) | exact .u | exact .i (by omega) | exact .v (by omega) | exact .b (by omega) | exact .w | rfl | omega)) | exact .v (by omega) | exact .b (by omega) | exact .q (by omega) | exact .w | exact .b (by exact at_) rfl (by exact nth_Dkb) | exact .w (by exact at_) rfl rfl (by exact sz_Dkb) | exact .s (by exact at_) (by exact mid_Dkb) rfl rfl (by exact sz_Dkb) | exact .z rfl rfl ⟨by kernel_rfl⟩ | exact .b rfl rfl ⟨by kernel_rfl⟩ | exact .a rfl rfl ⟨by kernel_rfl⟩ | exact .o rfl | exact .s | exact .n | exact .p rfl | exact .q rfl | exact .c rfl | exact .d rfl | exact .n rfl rfl (by omega) | exact .a rfl rfl (by omega) | exact .p rfl rfl (by omega) (by omega) | exact .y rfl rfl (by omega) (by omega) | exact .o (by exact at_) (by omega) rfl (by exact nth_Dkb) | exact .m (by exact at_) (by omega) (by exact mid_Dkb) rfl rfl (by exact sz_Dkb) | exact .mlen (by exact at_) rfl | exact .t (by exact at_) rfl rfl (by first | exact True.intro | rfl) (by assumption) | exact .f (by exact at_) rfl rfl (by first | exact True.intro | rfl) (by assumption) rfl | exact .t1 (by exact at_) rfl rfl (by first | exact True.intro | rfl) (by assumption) | exact .f1 (by exact at_) rfl rfl (by first | exact True.intro | rfl) (by assumption) rfl | exact .r rfl rfl (by omega) (by omega) (by exact nth_Dkb) rfl | exact .s rfl (by omega) (by assumption) | exact at_ | assumption | exact .r rfl rfl | exact .h rfl rfl rfl (by omega) | exact .l rfl rfl rfl (by omega) (by omega) | exact .g rfl rfl rfl rfl (by omega) (by omega) | exact .h rfl rfl (toN_ (by omega)) (by omega) | exact .l rfl rfl (toN_ (by omega)) (by omega) (by omega) | exact .g rfl rfl (toN_ (by omega)) (toN_ (by omega)) (by omega) (by omega) | exact .o (by decide) | exact .f (by decide) | exact .n (by omega) (by first | decide | (show _ ≤ ((64 : Nat) : Int); omega)) | (constructor; (repeat (first | exact .t (by omega) | exact .f (by omega) | exact .u | exact .i (by omega) | exact .v (by omega) | exact .b (by omega) | exact .w | rfl | omega)); first | done | fail) | omega | (show _ ≤ ((64 : Nat) : Int); omega)) : φ := h
theorem pv_Dkb {φ : Prop} (h : φ := by constructor; (repeat exact cl_Dkb); first | done | fail) : φ := h
theorem su_Dkb {φ ψ : Prop} (k : ψ) (h : Hide ψ → φ := by (intro k; (first | refine sl_pu (PuI.sep (by exact pv_Dkb)) rfl ?_ | refine sl_yes rfl rfl ?_ | refine sl_no rfl rfl rfl ?_ | refine sl_off rfl rfl rfl ?_ | (fail)); exact k.out)) : φ := h ⟨k⟩
theorem rq_Dkb {φ ψ : Prop} (k : ψ) (h : Hide ψ → φ := by (intro k; (first | refine wq_pu (PuI.sep (by exact pv_Dkb)) rfl ?_ | refine wq_yes rfl rfl ?_ | refine wq_no rfl rfl rfl ?_ | refine wq_off rfl rfl rfl ?_ | (fail)); exact k.out)) : φ := h ⟨k⟩
theorem sto_Dkb {φ ψ : Prop} (k : ψ) (h : Hide ψ → φ := by (intro k; (first | refine sl_store rfl (by exact pick_) rfl rfl (by kernel_rfl) (by exact set_Dkb) ?_ | refine sl_store_whole rfl (by exact pick_) rfl (by exact sz_Dkb) (by exact sz_Dkb) (by exact one_Dkb) ?_); exact k.out)) : φ := h ⟨k⟩
theorem go_Dkb {φ ψ : Prop} (k : ψ) (h : Hide ψ → φ := by (intro k; (repeat (first | refine su_Dkb ?_ | refine so_ ?_ | refine sto_Dkb ?_)); exact k.out)) : φ := h ⟨k⟩
set_option maxRecDepth 100000 in
set_option maxHeartbeats 4000000 in
theorem lawKeeps_ok {K : List Fa} {A B : Option Addr} {ca cb : Nat} {a b : List Int} {keep : Int} (ha : Vw K (fun w => Reads w 1 A a.length (bytes a))) (hb : Vw K (fun w => Reads w 1 B b.length (bytes b))) (hab : IsBytes a) (hbb : IsBytes b) (hcb : b.length ≤ cb) (hk : -9223372036854775808 ≤ keep ∧ keep ≤ 9223372036854775807) (hal : a.length ≤ 9223372036854775807) (hbl : b.length ≤ 9223372036854775807) :
    Fn Try.prog 7 #[.slice A a.length ca, .slice B b.length cb, .int .i64 keep] K (Ret (fun _ : Unit => True) (fun _ => .bool true) (fun _ => K)) := by
  refine fn_enter Try.func7 rfl _ Try.ntmps7 (by simp) [(0, .slice A a.length ca), (1, .slice B b.length cb), (2, .int .i64 keep)] (args_of (by simp)) ?_
  refine go_Dkb ?_
  refine sl_call rfl rfl (by kernel_rfl) rfl Sub.refl awake16 ?_
  rintro _ -
  by_cases ha3 : 300 < a.length
  · refine go_Dkb ?_
    exact se_ret1 () trivial rfl rfl (by exact sub_)
  by_cases hb3 : 300 < b.length
  · refine go_Dkb ?_
    exact se_ret1 () trivial rfl rfl (by exact sub_)
  refine go_Dkb ?_
  refine sl_call rfl rfl (by kernel_rfl) rfl Sub.refl newD_ok ?_
  rintro ⟨g, m⟩ -
  dsimp only
  rw [show limL 10000 = 10000 by rfl]
  refine go_Dkb ?_
  refine sl_call rfl rfl (by kernel_rfl) rfl Sub.refl (appD_new (s := sf) (b := a) (fs := []) (m := m) (ck := 0) (lim := 10000) (by decide) (by decide) dhas_nil (by decide) (by decide) (by simp [usedN]; omega) (ha.mono (by exact sub_))) ?_
  rintro ⟨A1, c1⟩ -
  refine go_Dkb ?_
  refine sl_call rfl rfl (by kernel_rfl) rfl Sub.refl (syncD_ok (X := []) (Y := []) (f := ⟨sf, A1, c1, a, 0, 0⟩) (g := g) (m := m) (ck := 1) (lim := 10000)) ?_
  rintro _ -
  rw [← ds_sy (X := []) (Y := []) (k := a.length)]
  refine go_Dkb ?_
  refine sl_call rfl rfl (by kernel_rfl) rfl Sub.refl (appD_yes (X := []) (Y := []) (f := ⟨sf, A1, c1, a, a.length, 0⟩) (b := b) (g := g) (m := m) (ck := 1) (lim := 10000) (show sf.size ≤ _ by decide) (show nameB sf = true by decide) (by decide) (by simp [usedN]; omega) (hb.mono (by exact sub_))) ?_
  rintro ⟨A2, c2⟩ -
  refine go_Dkb ?_
  refine sl_call rfl rfl (by kernel_rfl) rfl Sub.refl (copyD_ok (fs := [⟨sf, A2, c2, a ++ b, a.length, 0⟩]) (g := g) (m := m) (ck := 1) (lim := 10000) (by decide) (by intro f hf; rw [List.mem_singleton] at hf; subst hf; simp; omega)) ?_
  rintro ⟨g2, m2, fs2, ck2⟩ hp
  dsimp only at hp ⊢
  obtain ⟨f2, hf2, hab2⟩ : ∃ f2, fs2 = [f2] ∧ f2.ab = ⟨sf, a ++ b, a.length⟩ := by
    have h1 := List.perm_singleton.1 hp
    obtain ⟨f, rest, rfl, hf, hr⟩ := List.map_eq_cons_iff.1 h1
    obtain rfl : rest = [] := List.map_eq_nil_iff.1 hr
    exact ⟨f, rfl, hf⟩
  subst hf2
  refine go_Dkb ?_
  have hcr := crashD_ok (K := dB g2 m2 10000 :: dM m2 [f2] ck2 :: dS [f2] :: K) (fs := [⟨sf, A2, c2, a ++ b, a.length, 0⟩]) (g := g) (m := m) (ck := 1) (lim := 10000) (keep := keep) (by simp) (by intro f hf; rw [List.mem_singleton] at hf; subst hf; simp; omega)
  refine sl_call rfl rfl (by kernel_rfl) rfl (by exact sub_) hcr ?_
  rintro fs hfs
  obtain ⟨f, rest, rfl, hf, hr⟩ := List.map_eq_cons_iff.1 hfs
  obtain rfl : rest = [] := List.map_eq_nil_iff.1 hr
  clear hr hfs hcr
  have h1 : f.s = sf := congrArg Fi.s hf
  have h2 : f.l = (a ++ b).take (crN keep (a ++ b) a.length) := congrArg Fi.l hf
  have h3 : f.sy = crN keep (a ++ b) a.length := congrArg Fi.sy hf
  have k1 : f2.s = sf := congrArg Fi.s hab2
  have k2 : f2.l = a ++ b := congrArg Fi.l hab2
  have k3 : f2.sy = a.length := congrArg Fi.sy hab2
  have hci := crN_int (keep := keep) (l := a ++ b) (sy := a.length) (by simp)
  have hcl := crN_le (keep := keep) (l := a ++ b) (sy := a.length) (by simp)
  have hlab : (a ++ b).length = a.length + b.length := List.length_append
  rw [hlab, show ((a.length + b.length : Nat) : Int) - a.length = b.length by omega] at hci
  obtain ⟨k, hkk⟩ : ∃ k : Nat, crN keep (a ++ b) a.length = a.length + k := ⟨crN keep (a ++ b) a.length - a.length, by omega⟩
  have hkb : k ≤ b.length := by omega
  have hki : (if (b.length : Int) < (if keep < 0 then 0 else keep) then (b.length : Int) else (if keep < 0 then 0 else keep)) = k := by omega
  have hfl : f.l = a ++ b.take k := by rw [h2, hkk, List.take_length_add_append]
  have hrd := readD_ok (K := dB g m 10000 :: dM m [f] 1 :: dS [f] :: dB g2 m2 10000 :: dM m2 [f2] ck2 :: dS [f2] :: K) (g := g) (m := m) (ck := 1) (lim := 10000) (fs := [f]) (f := f) (by exact at_) (by exact at_) (by exact at_) (List.mem_singleton.2 rfl) (by rw [hfl, List.length_append, List.length_take]; omega)
  rw [h1, hfl] at hrd
  refine go_Dkb ?_
  refine sl_call rfl rfl (by kernel_rfl) rfl (by exact sub_) hrd ?_
  rintro ⟨A3, c3⟩ -
  have hrd2 := readD_ok (K := u8o A3 c3 (a ++ b.take k) :: dB g m 10000 :: dM m [f] 1 :: dS [f] :: dB g2 m2 10000 :: dM m2 [f2] ck2 :: dS [f2] :: K) (g := g2) (m := m2) (ck := ck2) (lim := 10000) (fs := [f2]) (f := f2) (by exact at_) (by exact at_) (by exact at_) (List.mem_singleton.2 rfl) (by rw [k2, hlab]; omega)
  rw [k1, k2] at hrd2
  refine go_Dkb ?_
  refine sl_call rfl rfl (by kernel_rfl) rfl (by exact sub_) hrd2 ?_
  rintro ⟨A4, c4⟩ -
  refine go_Dkb ?_
  refine sq_region (by kernel_rfl) (by kernel_rfl) ?_
  repeat refine rq_Dkb ?_
  refine wq_pu (pu_strv (ha.mono (by exact sub_)) rfl rfl rfl rfl) rfl ?_
  repeat refine rq_Dkb ?_
  rw [hki]
  repeat refine rq_Dkb ?_
  refine wq_pu (pu_strv (bs := b.take k) (fun w hw => by have h1 := (hb w (hw.sub (by exact sub_))).take (k := k) (by omega); rwa [bytes_take] at h1) rfl rfl rfl rfl) rfl ?_
  repeat refine rq_Dkb ?_
  refine wq_pu (pu_add_bytes (p := a) (q := b.take k) rfl rfl (by rw [List.length_take]; omega)) rfl ?_
  repeat refine rq_Dkb ?_
  refine sq_end ?_
  refine go_Dkb ?_
  refine sl_pu (pu_strv (Vw.of_own (c := c3) (e := 5) (by exact at_)) rfl rfl rfl rfl) rfl ?_
  refine go_Dkb ?_
  refine sl_pu (pu_strv (Vw.of_own (c := c4) (e := 5) (by exact at_)) rfl rfl rfl rfl) rfl ?_
  refine go_Dkb ?_
  refine sl_pu (pu_strv (ha.mono (by exact sub_)) rfl rfl rfl rfl) rfl ?_
  refine go_Dkb ?_
  refine sl_pu (pu_strv (hb.mono (by exact sub_)) rfl rfl rfl rfl) rfl ?_
  refine go_Dkb ?_
  refine sl_pu (pu_add_bytes (p := a) (q := b) rfl rfl (by omega)) rfl ?_
  refine go_Dkb ?_
  have hlo := looseD_ok (K := u8o A4 c4 (a ++ b) :: u8o A3 c3 (a ++ b.take k) :: dB g m 10000 :: dM m [f] 1 :: dS [f] :: dB g2 m2 10000 :: dM m2 [f2] ck2 :: dS [f2] :: K) (g := g) (m := m) (ck := 1) (lim := 10000) (fs := [f]) (f := f) (by exact at_) (by exact at_) (List.mem_singleton.2 rfl) (by rw [h3, hfl, List.length_append, List.length_take]; omega) (by rw [hfl, List.length_append, List.length_take]; omega)
  rw [h1, h3, hfl, hkk, List.length_append, List.length_take, show a.length + min k b.length - (a.length + k) = 0 by omega] at hlo
  refine sl_call rfl rfl (by kernel_rfl) rfl (by exact sub_) hlo ?_
  rintro _ -
  refine go_Dkb ?_
  have hlo2 := looseD_ok (K := u8o A4 c4 (a ++ b) :: u8o A3 c3 (a ++ b.take k) :: dB g m 10000 :: dM m [f] 1 :: dS [f] :: dB g2 m2 10000 :: dM m2 [f2] ck2 :: dS [f2] :: K) (g := g2) (m := m2) (ck := ck2) (lim := 10000) (fs := [f2]) (f := f2) (by exact at_) (by exact at_) (List.mem_singleton.2 rfl) (by rw [k3, k2, hlab]; omega) (by rw [k2, hlab]; omega)
  rw [k1, k3, k2, hlab, show a.length + b.length - a.length = b.length by omega] at hlo2
  refine sl_call rfl rfl (by kernel_rfl) rfl (by exact sub_) hlo2 ?_
  rintro _ -
  refine go_Dkb ?_
  exact se_ret1 () trivial rfl rfl (by exact sub_)
end Go.Proofs.Ytemhhhikopemmaa
