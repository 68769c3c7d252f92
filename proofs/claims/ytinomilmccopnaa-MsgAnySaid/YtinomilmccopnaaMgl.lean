/- MsgAny. -/
import Derived.Test.YtinomilmccopnaaMgf
import Derived.Test.YtinomilmccopnaaMgk
import Derived.Test.YtinomilmccopnaaAps
import Derived.Test.YtinomilmccopnaaReg4
namespace Go.Proofs.Ytinomilmccopnaa
open Go.RowKit
attribute [local irreducible] Go.Calls Go.Exit.then Go.Exit.inBlock Go.bodyPost Go.Code.wp Go.wpList
theorem decR_code {bs : List Int} {x : Int} (h : decR bs = .error x) : x ≠ 0 := by
  unfold decR at h
  split at h
  · rename_i y hy
    injection h with h
    subst h
    exact decM_code hy
  · split at h
    · split at h
      · cases h
      · rename_i hc
        injection h with h
        subst h
        exact hc
    · injection h with h
      omega
theorem decR_yes {bs : List Int} {M : Msg} (hb : IsBytes bs) (h : decR bs = .ok M) : msgCheck M = 0 ∧ bs = encM M := by
  unfold decR at h
  split at h
  · cases h
  · rename_i M' rest hd
    split at h
    · rename_i hr
      split at h
      · rename_i hc
        injection h with h
        subst h
        refine ⟨hc, ?_⟩
        have := decM_inv hb hd
        rw [this, hr, List.append_nil]
      · cases h
    · cases h
theorem decR_short {m : Me} (h : msgCheck m.ab = 0) {k : Nat} (hk : k < (encM m.ab).length) : decR ((encM m.ab).take k) = .error 3 := by
  unfold decR
  rw [(decM_takes (Me.ok h)).cut k hk]
theorem decR_more {m : Me} (h : msgCheck m.ab = 0) {c : Int} : decR (encM m.ab ++ [c]) = .error 27 := by
  unfold decR
  rw [(decM_takes (Me.ok h)).go [c]]
  rfl
def mZ : Me := ⟨0, 0, 0, 0, ⟨List.replicate 16 0, rfl, fun x hx => by obtain ⟨_, rfl⟩ := List.mem_replicate.1 hx; decide⟩, 0, none, 0, [], by decide, by decide, by decide, by decide, by decide⟩
theorem mZ_v {L : List Fa} : MeV L mZ := fun w _ => ⟨Reads.nil_ _, fun e he => by cases he⟩
theorem mZ_len : mZ.es.length ≤ 1000000000000000 := Nat.zero_le _
theorem enc_pos {m : Me} : 34 ≤ (encM m.ab).length := by
  have h3 : (encH m.ab).length = 34 := by simp [encH, le_len, Me.ab, m.sum.len]
  unfold encM
  rw [List.length_append]
  omega
theorem Rd.mono2 {Z Z' : List Fa} {A : Option Addr} {n c : Nat} {rest : List Int} (h : Rd Z A n c rest) (hs : Sub Z' Z) : Rd Z' A n c rest := ⟨h.vw.mono hs, h.le, h.big, h.cb, h.len, h.okb⟩
theorem Rd.front2 {Z : List Fa} {A : Option Addr} {n c m : Nat} {rest : List Int} (h : Rd Z A n c rest) (hm : m ≤ n) : Rd Z A m c (rest.take m) :=
  ⟨fun w hw => by have h1 := (h.vw w hw).take (k := m) hm; rwa [bytes_take] at h1, Nat.le_trans hm h.le, Nat.le_trans hm h.big, h.cb, by rw [List.length_take, h.len]; omega, h.okb.take m⟩
theorem encM_lt {m : Me} (h : msgCheck m.ab = 0) : (encM m.ab).length ≤ 35184372088832 := by
  obtain ⟨_, _, _, _, _, _, _, _, z9, z10⟩ := Me.chk h
  have h1 := encEs_len (es := m.ab.es) (fun e he => by
    obtain ⟨x, hx, rfl⟩ := List.mem_map.1 he
    have h2 := z10 x hx
    exact ⟨x.id.len, by show x.pub.length ≤ _; rw [x.pl]; omega, by show x.sh.length ≤ _; rw [x.sl]; omega⟩)
  have h2 : m.ab.es.length = m.es.length := by simp [Me.ab]
  have h3 : (encH m.ab).length = 34 := by simp [encH, le_len, Me.ab, m.sum.len]
  unfold encM
  rw [List.length_append]
  omega
theorem nth_Mgl {φ : Prop} (h : φ := by (first | rfl | first | exact En.nt _ | exact En.np _ | exact En.ns _ | exact En.nc _ | exact Me.ne _ | exact Me.nd _ | exact mcs_4 | exact mcs_5 | assumption)) : φ := h
theorem mid_Mgl {φ : Prop} (h : φ := by (first | first | exact En.mid _ | exact Me.mid _ | exact Mid.all | exact Mid.head)) : φ := h
theorem sz_Mgl {φ : Prop} (h : φ := by (first | rfl | (first | (simp only [En.len, Me.len, bytes_length, Id.len, zm_len, mcs_lenI]; rfl) | simp only [En.len, Me.len, bytes_length, Id.len, zm_len, mcs_lenI]; first | done | fail))) : φ := h
theorem one_Mgl {φ : Prop} (h : φ := by (first | assumption | exact first | exact En.one _ | exact Me.one _ | exact mcs_one | (simp only [List.mem_cons, List.not_mem_nil, or_false, forall_eq_or_imp, forall_eq]; decide) | exact one_bytes _)) : φ := h
theorem set_Mgl {φ : Prop} (h : φ := by (first | (fail) | ((repeat (first | exact SetAt.here | apply SetAt.there)); first | done | fail))) : φ := h
theorem cl_Mgl {φ : Prop} (h : φ := by first | rfl | exact .t | exact .f | exact .t (by omega) | exact .f (by omega) | exact .u | exact .i (by (first | exact .t (by omega) | exact .f (by omega) | exact .u | exact .i (by omega) | exact .v (by omega) | exact .b (by omega) | exact .w | rfl | omega)) | exact .v (by omega) | exact .b (by omega) | exact .q (by omega) | exact .w | exact .b (by exact at_) rfl (by exact nth_Mgl) | exact .w (by exact at_) rfl rfl (by exact sz_Mgl) | exact .s (by exact at_) (by exact mid_Mgl) rfl rfl (by exact sz_Mgl) | exact .z rfl rfl ⟨by kernel_rfl⟩ | exact .b rfl rfl ⟨by kernel_rfl⟩ | exact .a rfl rfl ⟨by kernel_rfl⟩ | exact .o rfl | exact .s | exact .n | exact .p rfl | exact .q rfl | exact .c rfl | exact .d rfl | exact .n rfl rfl (by omega) | exact .a rfl rfl (by omega) | exact .p rfl rfl (by omega) (by omega) | exact .y rfl rfl (by omega) (by omega) | exact .o (by exact at_) (by omega) rfl (by exact nth_Mgl) | exact .m (by exact at_) (by omega) (by exact mid_Mgl) rfl rfl (by exact sz_Mgl) | exact .mlen (by exact at_) rfl | exact .t (by exact at_) rfl rfl (by first | exact True.intro | rfl) (by assumption) | exact .f (by exact at_) rfl rfl (by first | exact True.intro | rfl) (by assumption) rfl | exact .t1 (by exact at_) rfl rfl (by first | exact True.intro | rfl) (by assumption) | exact .f1 (by exact at_) rfl rfl (by first | exact True.intro | rfl) (by assumption) rfl | exact .r rfl rfl (by omega) (by omega) (by exact nth_Mgl) rfl | exact .s rfl (by omega) (by assumption) | exact at_ | assumption | exact .r rfl rfl | exact .h rfl rfl rfl (by omega) | exact .l rfl rfl rfl (by omega) (by omega) | exact .g rfl rfl rfl rfl (by omega) (by omega) | exact .h rfl rfl (toN_ (by omega)) (by omega) | exact .l rfl rfl (toN_ (by omega)) (by omega) (by omega) | exact .g rfl rfl (toN_ (by omega)) (toN_ (by omega)) (by omega) (by omega) | exact .o (by decide) | exact .f (by decide) | exact .n (by omega) (by first | decide | (show _ ≤ ((64 : Nat) : Int); omega)) | (constructor; (repeat (first | exact .t (by omega) | exact .f (by omega) | exact .u | exact .i (by omega) | exact .v (by omega) | exact .b (by omega) | exact .w | rfl | omega)); first | done | fail) | omega | (show _ ≤ ((64 : Nat) : Int); omega)) : φ := h
theorem pv_Mgl {φ : Prop} (h : φ := by constructor; (repeat exact cl_Mgl); first | done | fail) : φ := h
theorem su_Mgl {φ ψ : Prop} (k : ψ) (h : Hide ψ → φ := by (intro k; (first | refine sl_pu (PuI.sep (by exact pv_Mgl)) rfl ?_ | refine sl_yes rfl rfl ?_ | refine sl_no rfl rfl rfl ?_ | refine sl_off rfl rfl rfl ?_); exact k.out)) : φ := h ⟨k⟩
theorem rq_Mgl {φ ψ : Prop} (k : ψ) (h : Hide ψ → φ := by (intro k; (first | refine wq_pu (PuI.sep (by exact pv_Mgl)) rfl ?_ | refine wq_yes rfl rfl ?_ | refine wq_no rfl rfl rfl ?_ | refine wq_off rfl rfl rfl ?_); exact k.out)) : φ := h ⟨k⟩
theorem sto_Mgl {φ ψ : Prop} (k : ψ) (h : Hide ψ → φ := by (intro k; (first | refine sl_store rfl (by exact pick_) rfl rfl (by kernel_rfl) (by exact set_Mgl) ?_ | refine sl_store_whole rfl (by exact pick_) rfl (by exact sz_Mgl) (by exact sz_Mgl) (by exact one_Mgl) ?_); exact k.out)) : φ := h ⟨k⟩
theorem go_Mgl {φ ψ : Prop} (k : ψ) (h : Hide ψ → φ := by (intro k; (repeat (first | refine su_Mgl ?_ | refine so_ ?_ | refine sto_Mgl ?_)); exact k.out)) : φ := h ⟨k⟩
theorem sl1_one {A : Option Addr} {n c : Nat} : ∀ u ∈ [Value.slice A n c], u.oneCell' = true := by
  intro u hu
  rw [List.mem_singleton] at hu
  subst hu
  rfl
set_option maxRecDepth 100000 in
set_option maxHeartbeats 8000000 in
theorem lawAny_ok {K : List Fa} {a : Me} (ha : MeV K a) (hba : ∀ e ∈ a.es, e.n ≤ 140737488351232 ∧ e.m ≤ 140737488351232) (hna : a.es.length * 80 ≤ 140737488351232) {P : Option Addr} {cp : Nat} {raw : List Int} (hp : raw.length ≤ 70368744177664 → Rd K P raw.length cp raw) (hpl : raw.length ≤ 9223372036854775807) {a2 a3 : Int} (h2 : 0 ≤ a2 ∧ a2 ≤ 65535) (h3 : 0 ≤ a3 ∧ a3 ≤ 255) :
    Fn Try.prog 11 #[.slice P raw.length cp, a.v, .int .u16 a2, .int .u8 a3] K (Ret (fun _ : Unit => True) (fun _ => .bool true) (fun _ => K)) := by
  refine fn_enter Try.func11 rfl _ Try.ntmps11 (by simp) [(0, .slice P raw.length cp), (1, a.v), (2, .int .u16 a2), (3, .int .u8 a3)] (args_of (by simp)) ?_
  refine go_Mgl ?_
  refine sl_box rfl rfl rfl ?_; intro ga
  refine go_Mgl ?_
  refine sl_call rfl rfl (by kernel_rfl) rfl (by exact sub_) awake20 ?_; rintro _ -
  by_cases h400 : 400 < raw.length
  · refine go_Mgl ?_
    exact se_ret1 () trivial rfl rfl (by exact sub_)
  refine go_Mgl ?_
  refine sl_call rfl rfl (by kernel_rfl) rfl (by exact sub_) (small_ok (ha.mono (L' := msgB ga a :: K) (by exact sub_)) (by omega)) ?_
  rintro b1 -
  cases b1 with
  | false =>
    refine go_Mgl ?_
    exact se_ret1 () trivial rfl rfl (by exact sub_)
  | true =>
  refine go_Mgl ?_
  refine sl_call rfl rfl (by kernel_rfl) rfl Sub.refl (Right_ok (ha.mono (by exact sub_)) hba hna) ?_
  rintro q hq
  have hro : RtOk (a.rt q.A q.c q.es) q.es0 a := ⟨hq.ab, hq.rd⟩
  have hck := hro.ck
  obtain ⟨hb1, hb2, hb3⟩ := hro.big
  refine sl_call rfl rfl (by kernel_rfl) rfl Sub.refl (encode_ok (m := a.rt q.A q.c q.es) (hro.mev (by exact at_) (by exact at_)) hck) ?_
  rintro ⟨A1, c1⟩ -
  dsimp only
  have hbig := encM_lt hck
  have hpos := enc_pos (m := a.rt q.A q.c q.es)
  have hob := encM_b (a.rt q.A q.c q.es)
  have hsh : ∀ k, k < (encM (a.rt q.A q.c q.es).ab).length → decR ((encM (a.rt q.A q.c q.es).ab).take k) = .error 3 := fun k hk => decR_short hck hk
  have hmo : decR (encM (a.rt q.A q.c q.es).ab ++ [a3]) = .error 27 := decR_more hck
  refine sl_sub (L' := u8o A1 c1 (encM (a.rt q.A q.c q.es).ab) :: K) (by exact sub_) ?_
  generalize encM (a.rt q.A q.c q.es).ab = bs at hbig hpos hob hsh hmo ⊢
  obtain ⟨N, hN⟩ : ∃ N, bs.length = N := ⟨_, rfl⟩
  show SL _ _ _ _ _ _ (own 5 1 A1 bs.length c1 (bytes bs) :: K)
  rw [hN] at hbig hpos hsh ⊢
  refine sl_form (e := 5) (size := 1) (A := A1) (m := N) (by exact at_) (by omega) ?_
  rintro g1 rfl
  refine sl_know (fun w hw => (own_len (e := 5) (size := 1) (A := some ⟨g1, 0, none⟩) hw (by exact at_)).2) ?_
  rintro ⟨l1, l2⟩
  obtain ⟨k, hk⟩ : ∃ k : Nat, a2 % (N : Int) = k := ⟨(a2 % (N : Int)).toNat, (Int.toNat_of_nonneg (Int.emod_nonneg _ (by omega))).symm⟩
  have hkN : k < N := by
    have := Int.emod_lt_of_pos a2 (b := (N : Int)) (by omega)
    omega
  refine go_Mgl ?_
  rw [hk]
  refine go_Mgl ?_
  refine sl_build0 (e := 5) (size := 1) rfl (fun W => by kernel_rfl) rfl ?_
  intro g0
  refine go_Mgl ?_
  refine sl_app rfl (by exact pick_) rfl (Vw.of_own (e := 5) (A := some ⟨g1, 0, none⟩) (c := c1) (by exact at_)) (one_bytes _) rfl Try.info5 (by decide) (by decide) rfl (by unfold maxLen; omega) (by omega) ?_
  intro A2 c2
  rw [Nat.zero_add, List.nil_append]
  refine go_Mgl ?_
  rw [hk]
  refine sl_form (e := 5) (size := 1) (A := A2) (m := N) (by exact at_) (by omega) ?_
  rintro g2 rfl
  refine go_Mgl ?_
  rw [add_none]
  refine sl_sto (e := 5) (size := 1) (k := N) (c := c2) (xs := bytes bs) rfl (by exact pick_) rfl rfl rfl (by omega) ?_
  rw [bytes_set, show 0 + k * 1 = k by omega]
  refine go_Mgl ?_
  refine sl_build (size := 1) (e := 5) (cells := bytes [a3]) rfl (fun W => by kernel_rfl) rfl (by decide) rfl ?_
  intro gc
  refine sl_app_two (e := 5) (size := 1) (g := g1) (k := N) (m := 1) (c := c1) (xs := bytes bs) (ys := bytes [a3]) rfl (by exact pick_) (by omega) rfl (Vw.of_own (e := 5) (A := some ⟨gc, 0, none⟩) (c := 1) (by exact at_)) (by decide) (one_bytes _) rfl Try.info5 (by decide) rfl (by unfold maxLen; omega) (by omega) (by rw [bytes_length, hN, Nat.mul_one]) ?_
  intro g3 c3 F hF
  rw [← bytes_app] at hF ⊢
  refine go_Mgl ?_
  refine sl_build (size := 1) (e := 40) (cells := [.slice P raw.length cp, .slice (some ⟨g1, 0, none⟩) k c1, .slice (some ⟨g2, 0, none⟩) N c2, .slice (some ⟨g3, 0, none⟩) (N + 1) c3]) rfl (fun W => by kernel_rfl) rfl (by decide) rfl ?_
  intro gr
  refine sl_know (fun w hw => (own_len (e := 5) (size := 1) (A := some ⟨g2, 0, none⟩) hw (by exact at_)).2) ?_
  rintro ⟨l3, l4⟩
  refine sl_know (fun w hw => (own_len (e := 5) (size := 1) (A := some ⟨g3, 0, none⟩) hw (by exact at_)).2) ?_
  rintro ⟨l5, l6⟩
  refine sl_sub (L' := own 40 1 (some ⟨gr, 0, none⟩) 4 4 [.slice P raw.length cp, .slice (some ⟨g1, 0, none⟩) k c1, .slice (some ⟨g2, 0, none⟩) N c2, .slice (some ⟨g3, 0, none⟩) (N + 1) c3] :: own 5 1 (some ⟨g3, 0, none⟩) (N + 1) c3 (bytes (bs ++ [a3])) :: F :: own 5 1 (some ⟨g2, 0, none⟩) N c2 (bytes (bs.set k a3)) :: K) (by exact sub_) ?_
  have hin : Rd (own 5 1 (some ⟨g3, 0, none⟩) (N + 1) c3 (bytes (bs ++ [a3])) :: F :: own 5 1 (some ⟨g2, 0, none⟩) N c2 (bytes (bs.set k a3)) :: K) (some ⟨g1, 0, none⟩) N c1 bs := ⟨fun w hw => Vw.of_own (e := 5) (c := c1) .here w (hF _ w hw), l1, by omega, l2, hN, hob⟩
  have hrds := hin.front2 (m := k) (by omega)
  have hrdb : Rd (own 5 1 (some ⟨g3, 0, none⟩) (N + 1) c3 (bytes (bs ++ [a3])) :: F :: own 5 1 (some ⟨g2, 0, none⟩) N c2 (bytes (bs.set k a3)) :: K) (some ⟨g2, 0, none⟩) N c2 (bs.set k a3) := ⟨Vw.of_own (by exact at_), l3, by omega, l4, by rw [List.length_set, hN], hob.set k h3.1 (by omega)⟩
  have hrdm : Rd (own 5 1 (some ⟨g3, 0, none⟩) (N + 1) c3 (bytes (bs ++ [a3])) :: F :: own 5 1 (some ⟨g2, 0, none⟩) N c2 (bytes (bs.set k a3)) :: K) (some ⟨g3, 0, none⟩) (N + 1) c3 (bs ++ [a3]) := ⟨Vw.of_own (by exact at_), l5, by omega, l6, by rw [List.length_append, hN]; rfl, hob.app (fun x hx => by rw [List.mem_singleton] at hx; subst hx; omega)⟩
  have hrdp : Rd (own 5 1 (some ⟨g3, 0, none⟩) (N + 1) c3 (bytes (bs ++ [a3])) :: F :: own 5 1 (some ⟨g2, 0, none⟩) N c2 (bytes (bs.set k a3)) :: K) P raw.length cp raw := (hp (by omega)).mono2 (by exact sub_)
  refine go_Mgl ?_
  refine sc_bjoin (fun _ : Unit => [(3, .int .u8 a3), (9, .slice (some ⟨g1, 0, none⟩) N c1), (10, .slice (some ⟨g1, 0, none⟩) k c1)]) (fun _ => own 5 1 (some ⟨g3, 0, none⟩) (N + 1) c3 (bytes (bs ++ [a3])) :: F :: own 5 1 (some ⟨g2, 0, none⟩) N c2 (bytes (bs.set k a3)) :: K) (fun _ => True) ?_ ?_
  · refine sc_for (fun j : Nat => [(3, .int .u8 a3), (9, .slice (some ⟨g1, 0, none⟩) N c1), (10, .slice (some ⟨g1, 0, none⟩) k c1), (58, .slice (some ⟨gr, 0, none⟩) 4 4), (59, .int .i64 4), (60, .int .i64 j)]) (fun _ => own 40 1 (some ⟨gr, 0, none⟩) 4 4 [.slice P raw.length cp, .slice (some ⟨g1, 0, none⟩) k c1, .slice (some ⟨g2, 0, none⟩) N c2, .slice (some ⟨g3, 0, none⟩) (N + 1) c3] :: own 5 1 (some ⟨g3, 0, none⟩) (N + 1) c3 (bytes (bs ++ [a3])) :: F :: own 5 1 (some ⟨g2, 0, none⟩) N c2 (bytes (bs.set k a3)) :: K) (fun j => j ≤ 4) (fun j => 4 - j) 0 (by exact has_) (by exact sub_) (by omega) ?_
    intro j hj
    by_cases hlt : j < 4
    · obtain ⟨X, n, c, xb, hcell, hrd⟩ : ∃ (X : Option Addr) (n c : Nat) (xb : List Int), nth [.slice P raw.length cp, .slice (some ⟨g1, 0, none⟩) k c1, .slice (some ⟨g2, 0, none⟩) N c2, .slice (some ⟨g3, 0, none⟩) (N + 1) c3] (j * 1) = some (.slice X n c) ∧ Rd (own 5 1 (some ⟨g3, 0, none⟩) (N + 1) c3 (bytes (bs ++ [a3])) :: F :: own 5 1 (some ⟨g2, 0, none⟩) N c2 (bytes (bs.set k a3)) :: K) X n c xb := by
        rcases (show j = 0 ∨ j = 1 ∨ j = 2 ∨ j = 3 by omega) with h | h | h | h
        · subst h; exact ⟨_, _, _, _, rfl, hrdp⟩
        · subst h; exact ⟨_, _, _, _, rfl, hrds⟩
        · subst h; exact ⟨_, _, _, _, rfl, hrdb⟩
        · subst h; exact ⟨_, _, _, _, rfl, hrdm⟩
      generalize hcs : [Value.slice P raw.length cp, .slice (some ⟨g1, 0, none⟩) k c1, .slice (some ⟨g2, 0, none⟩) N c2, .slice (some ⟨g3, 0, none⟩) (N + 1) c3] = cells at hcell ⊢
      refine go_Mgl ?_
      have hd := Decode_ok (hrd.mono2 (Z' := own 40 1 (some ⟨gr, 0, none⟩) 4 4 cells :: own 5 1 (some ⟨g3, 0, none⟩) (N + 1) c3 (bytes (bs ++ [a3])) :: F :: own 5 1 (some ⟨g2, 0, none⟩) N c2 (bytes (bs.set k a3)) :: K) (by exact sub_))
      cases hD : decR xb with
      | ok M =>
        obtain ⟨hck', hbs⟩ := decR_yes hrd.okb hD
        rw [hD, DecA_ok] at hd
        refine sl_call rfl rfl (by kernel_rfl) rfl (by exact sub_) hd ?_
        rintro m' ⟨hm', hfu⟩
        subst hm'
        subst hbs
        have hml : m'.es.length ≤ 1000000000000000 := by
          have h1 := (Me.chk hck').2.2.2.2.2.2.2.2.1
          omega
        have hv' : MeV (ensO m'.A m'.c m'.es :: star (enO m'.es) :: K) m' := fun w hw => ⟨Vw.of_own (by exact at_) w hw, fun e he => enO_reads (hw.at (by exact at_)) he (Nat.le_of_eq (hfu e he).1) (Nat.le_of_eq (hfu e he).2)⟩
        refine go_Mgl ?_
        refine sl_alloc rfl rfl rfl ?_; intro g14
        refine go_Mgl ?_
        refine sd_drawn (fun W => AllP W [blk g14 48 m'.cells]) (fun _ => true) (by kernel_rfl) 25 rfl ?_
        refine sd_yes2 0 rfl (by exact gd_) (by kernel_rfl) (by kernel_rfl) (by exact nop_) (PuI.all (by exact pv_Mgl)) rfl (fun w hw => all_ hw) ?_
        refine sd_yes2 1 rfl (by exact gd_) (by kernel_rfl) (by kernel_rfl) (by exact nop_) (PuI.all (by exact pv_Mgl)) rfl (fun w hw => all_ hw) ?_
        refine sd_yes2 2 rfl (by exact gd_) (by kernel_rfl) (by kernel_rfl) (by exact nop_) (PuI.all (by exact pv_Mgl)) rfl (fun w hw => all_ hw) ?_
        first | refine sd_yes2 3 rfl (by exact gd_) (by kernel_rfl) (by kernel_rfl) (by exact nop_) (PuI.all (by exact pv_Mgl)) rfl (fun w hw => all_ hw) ?_ | refine sd_off2 3 rfl (by exact gd_) (by kernel_rfl) (by kernel_rfl) (by exact nop_) rfl (fun w hw => all_ hw) ?_ | refine sd_off3 3 rfl rfl rfl (by kernel_rfl) (by kernel_rfl) (by exact nop_) rfl (fun w hw => all_ hw) ?_
        refine sd_one 4 (by kernel_rfl) (sa_sl 4 rfl ?_)
        repeat refine su_Mgl ?_
        refine sl_call rfl rfl (by kernel_rfl) rfl Sub.refl (lawCheck_ok (hv'.mono (by exact sub_)) hml) ?_
        rintro _ -
        rw [hck']
        refine sl_nil ?_
        refine se_sd (fun _ w hw => all_ hw) ?_
        first | refine sd_yes2 5 rfl (by exact gd_) (by kernel_rfl) (by kernel_rfl) (by exact nop_) (PuI.all (by exact pv_Mgl)) rfl (fun w hw => all_ hw) ?_ | refine sd_off2 5 rfl (by exact gd_) (by kernel_rfl) (by kernel_rfl) (by exact nop_) rfl (fun w hw => all_ hw) ?_ | refine sd_off3 5 rfl rfl rfl (by kernel_rfl) (by kernel_rfl) (by exact nop_) rfl (fun w hw => all_ hw) ?_
        first | refine sd_yes2 6 rfl (by exact gd_) (by kernel_rfl) (by kernel_rfl) (by exact nop_) (PuI.all (by exact pv_Mgl)) rfl (fun w hw => all_ hw) ?_ | refine sd_off2 6 rfl (by exact gd_) (by kernel_rfl) (by kernel_rfl) (by exact nop_) rfl (fun w hw => all_ hw) ?_ | refine sd_off3 6 rfl rfl rfl (by kernel_rfl) (by kernel_rfl) (by exact nop_) rfl (fun w hw => all_ hw) ?_
        first | refine sd_yes2 7 rfl (by exact gd_) (by kernel_rfl) (by kernel_rfl) (by exact nop_) (PuI.all (by exact pv_Mgl)) rfl (fun w hw => all_ hw) ?_ | refine sd_off2 7 rfl (by exact gd_) (by kernel_rfl) (by kernel_rfl) (by exact nop_) rfl (fun w hw => all_ hw) ?_ | refine sd_off3 7 rfl rfl rfl (by kernel_rfl) (by kernel_rfl) (by exact nop_) rfl (fun w hw => all_ hw) ?_
        first | refine sd_yes2 10 rfl (by exact gd_) (by kernel_rfl) (by kernel_rfl) (by exact nop_) (PuI.all (by exact pv_Mgl)) rfl (fun w hw => all_ hw) ?_ | refine sd_off2 10 rfl (by exact gd_) (by kernel_rfl) (by kernel_rfl) (by exact nop_) rfl (fun w hw => all_ hw) ?_ | refine sd_off3 10 rfl rfl rfl (by kernel_rfl) (by kernel_rfl) (by exact nop_) rfl (fun w hw => all_ hw) ?_
        refine sd_two 8 11 (by kernel_rfl) (sa_sl 8 rfl ?_) (sa_sl 11 rfl ?_)
        · repeat refine su_Mgl ?_
          refine sl_call rfl rfl (by kernel_rfl) rfl Sub.refl (encode_ok (hv'.mono (by exact sub_)) hck') ?_
          rintro ⟨P9, p9⟩ -
          refine sl_nil ?_
          refine se_sd (fun _ w hw => all_ hw) ?_
          refine sd_two 9 11 (by kernel_rfl) (sa_sl 9 rfl ?_) (sa_sl 11 rfl ?_)
          · repeat refine su_Mgl ?_
            refine sl_pu (pu_strv (Vw.of_own (c := p9) (e := 5) (by exact at_)) rfl rfl rfl rfl) rfl ?_
            refine sl_nil ?_
            refine se_sd (fun _ w hw => all_ hw) ?_
            refine sd_one 11 (by kernel_rfl) (sa_sl 11 rfl ?_)
            repeat refine su_Mgl ?_
            refine sl_pu (pu_strv (hrd.vw.mono (by exact sub_)) rfl rfl rfl rfl) rfl ?_
            refine sl_nil ?_
            refine se_sd (fun _ w hw => all_ hw) ?_
            first | refine sd_yes2 12 rfl (by exact gd_) (by kernel_rfl) (by kernel_rfl) (by exact nop_) (PuI.all (by exact pv_Mgl)) rfl (fun w hw => all_ hw) ?_ | refine sd_off2 12 rfl (by exact gd_) (by kernel_rfl) (by kernel_rfl) (by exact nop_) rfl (fun w hw => all_ hw) ?_ | refine sd_off3 12 rfl rfl rfl (by kernel_rfl) (by kernel_rfl) (by exact nop_) rfl (fun w hw => all_ hw) ?_
            first | refine sd_yes2 13 rfl (by exact gd_) (by kernel_rfl) (by kernel_rfl) (by exact nop_) (PuI.all (by exact pv_Mgl)) rfl (fun w hw => all_ hw) ?_ | refine sd_off2 13 rfl (by exact gd_) (by kernel_rfl) (by kernel_rfl) (by exact nop_) rfl (fun w hw => all_ hw) ?_ | refine sd_off3 13 rfl rfl rfl (by kernel_rfl) (by kernel_rfl) (by exact nop_) rfl (fun w hw => all_ hw) ?_
            refine sd_yes2 14 rfl (by exact gd_) (by kernel_rfl) (by kernel_rfl) (by exact nop_) (PuI.all (by exact pv_Mgl)) rfl (fun w hw => all_ hw) ?_
            refine sd_yes2 15 rfl (by exact gd_) (by kernel_rfl) (by kernel_rfl) (by exact nop_) (PuI.all (by exact pv_Mgl)) rfl (fun w hw => all_ hw) ?_
            first | refine sd_yes2 16 rfl (by exact gd_) (by kernel_rfl) (by kernel_rfl) (by exact nop_) (PuI.all (by exact pv_Mgl)) rfl (fun w hw => all_ hw) ?_ | refine sd_off2 16 rfl (by exact gd_) (by kernel_rfl) (by kernel_rfl) (by exact nop_) rfl (fun w hw => all_ hw) ?_ | refine sd_off3 16 rfl rfl rfl (by kernel_rfl) (by kernel_rfl) (by exact nop_) rfl (fun w hw => all_ hw) ?_
            first | refine sd_yes2 17 rfl (by exact gd_) (by kernel_rfl) (by kernel_rfl) (by exact nop_) (PuI.all (by exact pv_Mgl)) rfl (fun w hw => all_ hw) ?_ | refine sd_off2 17 rfl (by exact gd_) (by kernel_rfl) (by kernel_rfl) (by exact nop_) rfl (fun w hw => all_ hw) ?_ | refine sd_off3 17 rfl rfl rfl (by kernel_rfl) (by kernel_rfl) (by exact nop_) rfl (fun w hw => all_ hw) ?_
            first | refine sd_yes2 18 rfl (by exact gd_) (by kernel_rfl) (by kernel_rfl) (by exact nop_) (PuI.all (by exact pv_Mgl)) rfl (fun w hw => all_ hw) ?_ | refine sd_off2 18 rfl (by exact gd_) (by kernel_rfl) (by kernel_rfl) (by exact nop_) rfl (fun w hw => all_ hw) ?_ | refine sd_off3 18 rfl rfl rfl (by kernel_rfl) (by kernel_rfl) (by exact nop_) rfl (fun w hw => all_ hw) ?_
            first | refine sd_yes2 19 rfl (by exact gd_) (by kernel_rfl) (by kernel_rfl) (by exact nop_) (PuI.all (by exact pv_Mgl)) rfl (fun w hw => all_ hw) ?_ | refine sd_off2 19 rfl (by exact gd_) (by kernel_rfl) (by kernel_rfl) (by exact nop_) rfl (fun w hw => all_ hw) ?_ | refine sd_off3 19 rfl rfl rfl (by kernel_rfl) (by kernel_rfl) (by exact nop_) rfl (fun w hw => all_ hw) ?_
            first | refine sd_yes2 20 rfl (by exact gd_) (by kernel_rfl) (by kernel_rfl) (by exact nop_) (PuI.all (by exact pv_Mgl)) rfl (fun w hw => all_ hw) ?_ | refine sd_off2 20 rfl (by exact gd_) (by kernel_rfl) (by kernel_rfl) (by exact nop_) rfl (fun w hw => all_ hw) ?_ | refine sd_off3 20 rfl rfl rfl (by kernel_rfl) (by kernel_rfl) (by exact nop_) rfl (fun w hw => all_ hw) ?_
            refine sd_one 21 (by kernel_rfl) (sa_sl 21 rfl ?_)
            repeat refine su_Mgl ?_
            refine sl_nil ?_
            refine se_sd (fun _ w hw => all_ hw) ?_
            first | refine sd_yes2 22 rfl (by exact gd_) (by kernel_rfl) (by kernel_rfl) (by exact nop_) (PuI.all (by exact pv_Mgl)) rfl (fun w hw => all_ hw) ?_ | refine sd_off2 22 rfl (by exact gd_) (by kernel_rfl) (by kernel_rfl) (by exact nop_) rfl (fun w hw => all_ hw) ?_ | refine sd_off3 22 rfl rfl rfl (by kernel_rfl) (by kernel_rfl) (by exact nop_) rfl (fun w hw => all_ hw) ?_
            first | refine sd_yes2 23 rfl (by exact gd_) (by kernel_rfl) (by kernel_rfl) (by exact nop_) (PuI.all (by exact pv_Mgl)) rfl (fun w hw => all_ hw) ?_ | refine sd_off2 23 rfl (by exact gd_) (by kernel_rfl) (by kernel_rfl) (by exact nop_) rfl (fun w hw => all_ hw) ?_ | refine sd_off3 23 rfl rfl rfl (by kernel_rfl) (by kernel_rfl) (by exact nop_) rfl (fun w hw => all_ hw) ?_
            refine sd_yes2 24 rfl (by exact gd_) (by kernel_rfl) (by kernel_rfl) (by exact nop_) (PuI.all (by exact pv_Mgl)) rfl (fun w hw => all_ hw) ?_
            refine sd_done (by kernel_rfl) ?_
            refine go_Mgl ?_
            exact se_round (j + 1) (by exact has_) (by exact sub_) hlt (by omega)
          · repeat refine su_Mgl ?_
            refine sl_pu (pu_strv (hrd.vw.mono (by exact sub_)) rfl rfl rfl rfl) rfl ?_
            refine sl_nil ?_
            refine se_sd (fun _ w hw => all_ hw) ?_
            refine sd_one 9 (by kernel_rfl) (sa_sl 9 rfl ?_)
            repeat refine su_Mgl ?_
            refine sl_pu (pu_strv (Vw.of_own (c := p9) (e := 5) (by exact at_)) rfl rfl rfl rfl) rfl ?_
            refine sl_nil ?_
            refine se_sd (fun _ w hw => all_ hw) ?_
            first | refine sd_yes2 12 rfl (by exact gd_) (by kernel_rfl) (by kernel_rfl) (by exact nop_) (PuI.all (by exact pv_Mgl)) rfl (fun w hw => all_ hw) ?_ | refine sd_off2 12 rfl (by exact gd_) (by kernel_rfl) (by kernel_rfl) (by exact nop_) rfl (fun w hw => all_ hw) ?_ | refine sd_off3 12 rfl rfl rfl (by kernel_rfl) (by kernel_rfl) (by exact nop_) rfl (fun w hw => all_ hw) ?_
            first | refine sd_yes2 13 rfl (by exact gd_) (by kernel_rfl) (by kernel_rfl) (by exact nop_) (PuI.all (by exact pv_Mgl)) rfl (fun w hw => all_ hw) ?_ | refine sd_off2 13 rfl (by exact gd_) (by kernel_rfl) (by kernel_rfl) (by exact nop_) rfl (fun w hw => all_ hw) ?_ | refine sd_off3 13 rfl rfl rfl (by kernel_rfl) (by kernel_rfl) (by exact nop_) rfl (fun w hw => all_ hw) ?_
            refine sd_yes2 14 rfl (by exact gd_) (by kernel_rfl) (by kernel_rfl) (by exact nop_) (PuI.all (by exact pv_Mgl)) rfl (fun w hw => all_ hw) ?_
            refine sd_yes2 15 rfl (by exact gd_) (by kernel_rfl) (by kernel_rfl) (by exact nop_) (PuI.all (by exact pv_Mgl)) rfl (fun w hw => all_ hw) ?_
            first | refine sd_yes2 16 rfl (by exact gd_) (by kernel_rfl) (by kernel_rfl) (by exact nop_) (PuI.all (by exact pv_Mgl)) rfl (fun w hw => all_ hw) ?_ | refine sd_off2 16 rfl (by exact gd_) (by kernel_rfl) (by kernel_rfl) (by exact nop_) rfl (fun w hw => all_ hw) ?_ | refine sd_off3 16 rfl rfl rfl (by kernel_rfl) (by kernel_rfl) (by exact nop_) rfl (fun w hw => all_ hw) ?_
            first | refine sd_yes2 17 rfl (by exact gd_) (by kernel_rfl) (by kernel_rfl) (by exact nop_) (PuI.all (by exact pv_Mgl)) rfl (fun w hw => all_ hw) ?_ | refine sd_off2 17 rfl (by exact gd_) (by kernel_rfl) (by kernel_rfl) (by exact nop_) rfl (fun w hw => all_ hw) ?_ | refine sd_off3 17 rfl rfl rfl (by kernel_rfl) (by kernel_rfl) (by exact nop_) rfl (fun w hw => all_ hw) ?_
            first | refine sd_yes2 18 rfl (by exact gd_) (by kernel_rfl) (by kernel_rfl) (by exact nop_) (PuI.all (by exact pv_Mgl)) rfl (fun w hw => all_ hw) ?_ | refine sd_off2 18 rfl (by exact gd_) (by kernel_rfl) (by kernel_rfl) (by exact nop_) rfl (fun w hw => all_ hw) ?_ | refine sd_off3 18 rfl rfl rfl (by kernel_rfl) (by kernel_rfl) (by exact nop_) rfl (fun w hw => all_ hw) ?_
            first | refine sd_yes2 19 rfl (by exact gd_) (by kernel_rfl) (by kernel_rfl) (by exact nop_) (PuI.all (by exact pv_Mgl)) rfl (fun w hw => all_ hw) ?_ | refine sd_off2 19 rfl (by exact gd_) (by kernel_rfl) (by kernel_rfl) (by exact nop_) rfl (fun w hw => all_ hw) ?_ | refine sd_off3 19 rfl rfl rfl (by kernel_rfl) (by kernel_rfl) (by exact nop_) rfl (fun w hw => all_ hw) ?_
            first | refine sd_yes2 20 rfl (by exact gd_) (by kernel_rfl) (by kernel_rfl) (by exact nop_) (PuI.all (by exact pv_Mgl)) rfl (fun w hw => all_ hw) ?_ | refine sd_off2 20 rfl (by exact gd_) (by kernel_rfl) (by kernel_rfl) (by exact nop_) rfl (fun w hw => all_ hw) ?_ | refine sd_off3 20 rfl rfl rfl (by kernel_rfl) (by kernel_rfl) (by exact nop_) rfl (fun w hw => all_ hw) ?_
            refine sd_one 21 (by kernel_rfl) (sa_sl 21 rfl ?_)
            repeat refine su_Mgl ?_
            refine sl_nil ?_
            refine se_sd (fun _ w hw => all_ hw) ?_
            first | refine sd_yes2 22 rfl (by exact gd_) (by kernel_rfl) (by kernel_rfl) (by exact nop_) (PuI.all (by exact pv_Mgl)) rfl (fun w hw => all_ hw) ?_ | refine sd_off2 22 rfl (by exact gd_) (by kernel_rfl) (by kernel_rfl) (by exact nop_) rfl (fun w hw => all_ hw) ?_ | refine sd_off3 22 rfl rfl rfl (by kernel_rfl) (by kernel_rfl) (by exact nop_) rfl (fun w hw => all_ hw) ?_
            first | refine sd_yes2 23 rfl (by exact gd_) (by kernel_rfl) (by kernel_rfl) (by exact nop_) (PuI.all (by exact pv_Mgl)) rfl (fun w hw => all_ hw) ?_ | refine sd_off2 23 rfl (by exact gd_) (by kernel_rfl) (by kernel_rfl) (by exact nop_) rfl (fun w hw => all_ hw) ?_ | refine sd_off3 23 rfl rfl rfl (by kernel_rfl) (by kernel_rfl) (by exact nop_) rfl (fun w hw => all_ hw) ?_
            refine sd_yes2 24 rfl (by exact gd_) (by kernel_rfl) (by kernel_rfl) (by exact nop_) (PuI.all (by exact pv_Mgl)) rfl (fun w hw => all_ hw) ?_
            refine sd_done (by kernel_rfl) ?_
            refine go_Mgl ?_
            exact se_round (j + 1) (by exact has_) (by exact sub_) hlt (by omega)
        · repeat refine su_Mgl ?_
          refine sl_pu (pu_strv (hrd.vw.mono (by exact sub_)) rfl rfl rfl rfl) rfl ?_
          refine sl_nil ?_
          refine se_sd (fun _ w hw => all_ hw) ?_
          refine sd_one 8 (by kernel_rfl) (sa_sl 8 rfl ?_)
          repeat refine su_Mgl ?_
          refine sl_call rfl rfl (by kernel_rfl) rfl Sub.refl (encode_ok (hv'.mono (by exact sub_)) hck') ?_
          rintro ⟨P9, p9⟩ -
          refine sl_nil ?_
          refine se_sd (fun _ w hw => all_ hw) ?_
          refine sd_one 9 (by kernel_rfl) (sa_sl 9 rfl ?_)
          repeat refine su_Mgl ?_
          refine sl_pu (pu_strv (Vw.of_own (c := p9) (e := 5) (by exact at_)) rfl rfl rfl rfl) rfl ?_
          refine sl_nil ?_
          refine se_sd (fun _ w hw => all_ hw) ?_
          first | refine sd_yes2 12 rfl (by exact gd_) (by kernel_rfl) (by kernel_rfl) (by exact nop_) (PuI.all (by exact pv_Mgl)) rfl (fun w hw => all_ hw) ?_ | refine sd_off2 12 rfl (by exact gd_) (by kernel_rfl) (by kernel_rfl) (by exact nop_) rfl (fun w hw => all_ hw) ?_ | refine sd_off3 12 rfl rfl rfl (by kernel_rfl) (by kernel_rfl) (by exact nop_) rfl (fun w hw => all_ hw) ?_
          first | refine sd_yes2 13 rfl (by exact gd_) (by kernel_rfl) (by kernel_rfl) (by exact nop_) (PuI.all (by exact pv_Mgl)) rfl (fun w hw => all_ hw) ?_ | refine sd_off2 13 rfl (by exact gd_) (by kernel_rfl) (by kernel_rfl) (by exact nop_) rfl (fun w hw => all_ hw) ?_ | refine sd_off3 13 rfl rfl rfl (by kernel_rfl) (by kernel_rfl) (by exact nop_) rfl (fun w hw => all_ hw) ?_
          refine sd_yes2 14 rfl (by exact gd_) (by kernel_rfl) (by kernel_rfl) (by exact nop_) (PuI.all (by exact pv_Mgl)) rfl (fun w hw => all_ hw) ?_
          refine sd_yes2 15 rfl (by exact gd_) (by kernel_rfl) (by kernel_rfl) (by exact nop_) (PuI.all (by exact pv_Mgl)) rfl (fun w hw => all_ hw) ?_
          first | refine sd_yes2 16 rfl (by exact gd_) (by kernel_rfl) (by kernel_rfl) (by exact nop_) (PuI.all (by exact pv_Mgl)) rfl (fun w hw => all_ hw) ?_ | refine sd_off2 16 rfl (by exact gd_) (by kernel_rfl) (by kernel_rfl) (by exact nop_) rfl (fun w hw => all_ hw) ?_ | refine sd_off3 16 rfl rfl rfl (by kernel_rfl) (by kernel_rfl) (by exact nop_) rfl (fun w hw => all_ hw) ?_
          first | refine sd_yes2 17 rfl (by exact gd_) (by kernel_rfl) (by kernel_rfl) (by exact nop_) (PuI.all (by exact pv_Mgl)) rfl (fun w hw => all_ hw) ?_ | refine sd_off2 17 rfl (by exact gd_) (by kernel_rfl) (by kernel_rfl) (by exact nop_) rfl (fun w hw => all_ hw) ?_ | refine sd_off3 17 rfl rfl rfl (by kernel_rfl) (by kernel_rfl) (by exact nop_) rfl (fun w hw => all_ hw) ?_
          first | refine sd_yes2 18 rfl (by exact gd_) (by kernel_rfl) (by kernel_rfl) (by exact nop_) (PuI.all (by exact pv_Mgl)) rfl (fun w hw => all_ hw) ?_ | refine sd_off2 18 rfl (by exact gd_) (by kernel_rfl) (by kernel_rfl) (by exact nop_) rfl (fun w hw => all_ hw) ?_ | refine sd_off3 18 rfl rfl rfl (by kernel_rfl) (by kernel_rfl) (by exact nop_) rfl (fun w hw => all_ hw) ?_
          first | refine sd_yes2 19 rfl (by exact gd_) (by kernel_rfl) (by kernel_rfl) (by exact nop_) (PuI.all (by exact pv_Mgl)) rfl (fun w hw => all_ hw) ?_ | refine sd_off2 19 rfl (by exact gd_) (by kernel_rfl) (by kernel_rfl) (by exact nop_) rfl (fun w hw => all_ hw) ?_ | refine sd_off3 19 rfl rfl rfl (by kernel_rfl) (by kernel_rfl) (by exact nop_) rfl (fun w hw => all_ hw) ?_
          first | refine sd_yes2 20 rfl (by exact gd_) (by kernel_rfl) (by kernel_rfl) (by exact nop_) (PuI.all (by exact pv_Mgl)) rfl (fun w hw => all_ hw) ?_ | refine sd_off2 20 rfl (by exact gd_) (by kernel_rfl) (by kernel_rfl) (by exact nop_) rfl (fun w hw => all_ hw) ?_ | refine sd_off3 20 rfl rfl rfl (by kernel_rfl) (by kernel_rfl) (by exact nop_) rfl (fun w hw => all_ hw) ?_
          refine sd_one 21 (by kernel_rfl) (sa_sl 21 rfl ?_)
          repeat refine su_Mgl ?_
          refine sl_nil ?_
          refine se_sd (fun _ w hw => all_ hw) ?_
          first | refine sd_yes2 22 rfl (by exact gd_) (by kernel_rfl) (by kernel_rfl) (by exact nop_) (PuI.all (by exact pv_Mgl)) rfl (fun w hw => all_ hw) ?_ | refine sd_off2 22 rfl (by exact gd_) (by kernel_rfl) (by kernel_rfl) (by exact nop_) rfl (fun w hw => all_ hw) ?_ | refine sd_off3 22 rfl rfl rfl (by kernel_rfl) (by kernel_rfl) (by exact nop_) rfl (fun w hw => all_ hw) ?_
          first | refine sd_yes2 23 rfl (by exact gd_) (by kernel_rfl) (by kernel_rfl) (by exact nop_) (PuI.all (by exact pv_Mgl)) rfl (fun w hw => all_ hw) ?_ | refine sd_off2 23 rfl (by exact gd_) (by kernel_rfl) (by kernel_rfl) (by exact nop_) rfl (fun w hw => all_ hw) ?_ | refine sd_off3 23 rfl rfl rfl (by kernel_rfl) (by kernel_rfl) (by exact nop_) rfl (fun w hw => all_ hw) ?_
          refine sd_yes2 24 rfl (by exact gd_) (by kernel_rfl) (by kernel_rfl) (by exact nop_) (PuI.all (by exact pv_Mgl)) rfl (fun w hw => all_ hw) ?_
          refine sd_done (by kernel_rfl) ?_
          refine go_Mgl ?_
          exact se_round (j + 1) (by exact has_) (by exact sub_) hlt (by omega)
      | error x =>
        have hx0 := decR_code hD
        rw [hD, DecA_err] at hd
        refine sl_call rfl rfl (by kernel_rfl) rfl (by exact sub_) hd ?_
        rintro _ -
        refine go_Mgl ?_
        refine sl_alloc rfl rfl rfl ?_; intro g14
        refine go_Mgl ?_
        refine sd_drawn (fun W => AllP W [blk g14 48 zm]) (fun _ => true) (by kernel_rfl) 25 rfl ?_
        refine sd_yes2 0 rfl (by exact gd_) (by kernel_rfl) (by kernel_rfl) (by exact nop_) (PuI.all (by exact pv_Mgl)) rfl (fun w hw => all_ hw) ?_
        refine sd_yes2 1 rfl (by exact gd_) (by kernel_rfl) (by kernel_rfl) (by exact nop_) (PuI.all (by exact pv_Mgl)) rfl (fun w hw => all_ hw) ?_
        refine sd_yes2 2 rfl (by exact gd_) (by kernel_rfl) (by kernel_rfl) (by exact nop_) (PuI.all (by exact pv_Mgl)) rfl (fun w hw => all_ hw) ?_
        first | refine sd_yes2 3 rfl (by exact gd_) (by kernel_rfl) (by kernel_rfl) (by exact nop_) (PuI.all (by exact pv_Mgl)) rfl (fun w hw => all_ hw) ?_ | refine sd_off2 3 rfl (by exact gd_) (by kernel_rfl) (by kernel_rfl) (by exact nop_) rfl (fun w hw => all_ hw) ?_ | refine sd_off3 3 rfl rfl rfl (by kernel_rfl) (by kernel_rfl) (by exact nop_) rfl (fun w hw => all_ hw) ?_
        refine sd_one 4 (by kernel_rfl) (sa_sl 4 rfl ?_)
        repeat refine su_Mgl ?_
        refine sl_nil ?_
        refine se_sd (fun _ w hw => all_ hw) ?_
        first | refine sd_yes2 5 rfl (by exact gd_) (by kernel_rfl) (by kernel_rfl) (by exact nop_) (PuI.all (by exact pv_Mgl)) rfl (fun w hw => all_ hw) ?_ | refine sd_off2 5 rfl (by exact gd_) (by kernel_rfl) (by kernel_rfl) (by exact nop_) rfl (fun w hw => all_ hw) ?_ | refine sd_off3 5 rfl rfl rfl (by kernel_rfl) (by kernel_rfl) (by exact nop_) rfl (fun w hw => all_ hw) ?_
        first | refine sd_yes2 6 rfl (by exact gd_) (by kernel_rfl) (by kernel_rfl) (by exact nop_) (PuI.all (by exact pv_Mgl)) rfl (fun w hw => all_ hw) ?_ | refine sd_off2 6 rfl (by exact gd_) (by kernel_rfl) (by kernel_rfl) (by exact nop_) rfl (fun w hw => all_ hw) ?_ | refine sd_off3 6 rfl rfl rfl (by kernel_rfl) (by kernel_rfl) (by exact nop_) rfl (fun w hw => all_ hw) ?_
        first | refine sd_yes2 7 rfl (by exact gd_) (by kernel_rfl) (by kernel_rfl) (by exact nop_) (PuI.all (by exact pv_Mgl)) rfl (fun w hw => all_ hw) ?_ | refine sd_off2 7 rfl (by exact gd_) (by kernel_rfl) (by kernel_rfl) (by exact nop_) rfl (fun w hw => all_ hw) ?_ | refine sd_off3 7 rfl rfl rfl (by kernel_rfl) (by kernel_rfl) (by exact nop_) rfl (fun w hw => all_ hw) ?_
        first | refine sd_yes2 10 rfl (by exact gd_) (by kernel_rfl) (by kernel_rfl) (by exact nop_) (PuI.all (by exact pv_Mgl)) rfl (fun w hw => all_ hw) ?_ | refine sd_off2 10 rfl (by exact gd_) (by kernel_rfl) (by kernel_rfl) (by exact nop_) rfl (fun w hw => all_ hw) ?_ | refine sd_off3 10 rfl rfl rfl (by kernel_rfl) (by kernel_rfl) (by exact nop_) rfl (fun w hw => all_ hw) ?_
        refine sd_two 8 11 (by kernel_rfl) (sa_sl 8 rfl ?_) (sa_sl 11 rfl ?_)
        · repeat refine su_Mgl ?_
          refine sl_nil ?_
          refine se_sd (fun _ w hw => all_ hw) ?_
          refine sd_two 9 11 (by kernel_rfl) (sa_sl 9 rfl ?_) (sa_sl 11 rfl ?_)
          · repeat refine su_Mgl ?_
            refine sl_nil ?_
            refine se_sd (fun _ w hw => all_ hw) ?_
            refine sd_one 11 (by kernel_rfl) (sa_sl 11 rfl ?_)
            repeat refine su_Mgl ?_
            refine sl_nil ?_
            refine se_sd (fun _ w hw => all_ hw) ?_
            first | refine sd_yes2 12 rfl (by exact gd_) (by kernel_rfl) (by kernel_rfl) (by exact nop_) (PuI.all (by exact pv_Mgl)) rfl (fun w hw => all_ hw) ?_ | refine sd_off2 12 rfl (by exact gd_) (by kernel_rfl) (by kernel_rfl) (by exact nop_) rfl (fun w hw => all_ hw) ?_ | refine sd_off3 12 rfl rfl rfl (by kernel_rfl) (by kernel_rfl) (by exact nop_) rfl (fun w hw => all_ hw) ?_
            first | refine sd_yes2 13 rfl (by exact gd_) (by kernel_rfl) (by kernel_rfl) (by exact nop_) (PuI.all (by exact pv_Mgl)) rfl (fun w hw => all_ hw) ?_ | refine sd_off2 13 rfl (by exact gd_) (by kernel_rfl) (by kernel_rfl) (by exact nop_) rfl (fun w hw => all_ hw) ?_ | refine sd_off3 13 rfl rfl rfl (by kernel_rfl) (by kernel_rfl) (by exact nop_) rfl (fun w hw => all_ hw) ?_
            refine sd_yes2 14 rfl (by exact gd_) (by kernel_rfl) (by kernel_rfl) (by exact nop_) (PuI.all (by exact pv_Mgl)) rfl (fun w hw => all_ hw) ?_
            refine sd_yes2 15 rfl (by exact gd_) (by kernel_rfl) (by kernel_rfl) (by exact nop_) (PuI.all (by exact pv_Mgl)) rfl (fun w hw => all_ hw) ?_
            first | refine sd_yes2 16 rfl (by exact gd_) (by kernel_rfl) (by kernel_rfl) (by exact nop_) (PuI.all (by exact pv_Mgl)) rfl (fun w hw => all_ hw) ?_ | refine sd_off2 16 rfl (by exact gd_) (by kernel_rfl) (by kernel_rfl) (by exact nop_) rfl (fun w hw => all_ hw) ?_ | refine sd_off3 16 rfl rfl rfl (by kernel_rfl) (by kernel_rfl) (by exact nop_) rfl (fun w hw => all_ hw) ?_
            first | refine sd_yes2 17 rfl (by exact gd_) (by kernel_rfl) (by kernel_rfl) (by exact nop_) (PuI.all (by exact pv_Mgl)) rfl (fun w hw => all_ hw) ?_ | refine sd_off2 17 rfl (by exact gd_) (by kernel_rfl) (by kernel_rfl) (by exact nop_) rfl (fun w hw => all_ hw) ?_ | refine sd_off3 17 rfl rfl rfl (by kernel_rfl) (by kernel_rfl) (by exact nop_) rfl (fun w hw => all_ hw) ?_
            first | refine sd_yes2 18 rfl (by exact gd_) (by kernel_rfl) (by kernel_rfl) (by exact nop_) (PuI.all (by exact pv_Mgl)) rfl (fun w hw => all_ hw) ?_ | refine sd_off2 18 rfl (by exact gd_) (by kernel_rfl) (by kernel_rfl) (by exact nop_) rfl (fun w hw => all_ hw) ?_ | refine sd_off3 18 rfl rfl rfl (by kernel_rfl) (by kernel_rfl) (by exact nop_) rfl (fun w hw => all_ hw) ?_
            first | refine sd_yes2 19 rfl (by exact gd_) (by kernel_rfl) (by kernel_rfl) (by exact nop_) (PuI.all (by exact pv_Mgl)) rfl (fun w hw => all_ hw) ?_ | refine sd_off2 19 rfl (by exact gd_) (by kernel_rfl) (by kernel_rfl) (by exact nop_) rfl (fun w hw => all_ hw) ?_ | refine sd_off3 19 rfl rfl rfl (by kernel_rfl) (by kernel_rfl) (by exact nop_) rfl (fun w hw => all_ hw) ?_
            first | refine sd_yes2 20 rfl (by exact gd_) (by kernel_rfl) (by kernel_rfl) (by exact nop_) (pu_build (v := .agg zm.toArray) rfl build_zm) rfl (fun w hw => all_ hw) ?_ | refine sd_off2 20 rfl (by exact gd_) (by kernel_rfl) (by kernel_rfl) (by exact nop_) rfl (fun w hw => all_ hw) ?_ | refine sd_off3 20 rfl rfl rfl (by kernel_rfl) (by kernel_rfl) (by exact nop_) rfl (fun w hw => all_ hw) ?_
            refine sd_one 21 (by kernel_rfl) (sa_sl 21 rfl ?_)
            repeat refine su_Mgl ?_
            refine sl_call rfl rfl (by kernel_rfl) rfl Sub.refl (Same_ok (a := mZ) (b := mZ) mZ_v mZ_v mZ_len mZ_len) ?_
            rintro _ -
            rw [sameM_iff.2 (rfl : mZ.ab = mZ.ab)]
            refine sl_nil ?_
            refine se_sd (fun _ w hw => all_ hw) ?_
            first | refine sd_yes2 22 rfl (by exact gd_) (by kernel_rfl) (by kernel_rfl) (by exact nop_) (PuI.all (by exact pv_Mgl)) rfl (fun w hw => all_ hw) ?_ | refine sd_off2 22 rfl (by exact gd_) (by kernel_rfl) (by kernel_rfl) (by exact nop_) rfl (fun w hw => all_ hw) ?_ | refine sd_off3 22 rfl rfl rfl (by kernel_rfl) (by kernel_rfl) (by exact nop_) rfl (fun w hw => all_ hw) ?_
            first | refine sd_yes2 23 rfl (by exact gd_) (by kernel_rfl) (by kernel_rfl) (by exact nop_) (PuI.all (by exact pv_Mgl)) rfl (fun w hw => all_ hw) ?_ | refine sd_off2 23 rfl (by exact gd_) (by kernel_rfl) (by kernel_rfl) (by exact nop_) rfl (fun w hw => all_ hw) ?_ | refine sd_off3 23 rfl rfl rfl (by kernel_rfl) (by kernel_rfl) (by exact nop_) rfl (fun w hw => all_ hw) ?_
            refine sd_yes2 24 rfl (by exact gd_) (by kernel_rfl) (by kernel_rfl) (by exact nop_) (PuI.all (by exact pv_Mgl)) rfl (fun w hw => all_ hw) ?_
            refine sd_done (by kernel_rfl) ?_
            refine go_Mgl ?_
            exact se_round (j + 1) (by exact has_) (by exact sub_) hlt (by omega)
          · repeat refine su_Mgl ?_
            refine sl_nil ?_
            refine se_sd (fun _ w hw => all_ hw) ?_
            refine sd_one 9 (by kernel_rfl) (sa_sl 9 rfl ?_)
            repeat refine su_Mgl ?_
            refine sl_nil ?_
            refine se_sd (fun _ w hw => all_ hw) ?_
            first | refine sd_yes2 12 rfl (by exact gd_) (by kernel_rfl) (by kernel_rfl) (by exact nop_) (PuI.all (by exact pv_Mgl)) rfl (fun w hw => all_ hw) ?_ | refine sd_off2 12 rfl (by exact gd_) (by kernel_rfl) (by kernel_rfl) (by exact nop_) rfl (fun w hw => all_ hw) ?_ | refine sd_off3 12 rfl rfl rfl (by kernel_rfl) (by kernel_rfl) (by exact nop_) rfl (fun w hw => all_ hw) ?_
            first | refine sd_yes2 13 rfl (by exact gd_) (by kernel_rfl) (by kernel_rfl) (by exact nop_) (PuI.all (by exact pv_Mgl)) rfl (fun w hw => all_ hw) ?_ | refine sd_off2 13 rfl (by exact gd_) (by kernel_rfl) (by kernel_rfl) (by exact nop_) rfl (fun w hw => all_ hw) ?_ | refine sd_off3 13 rfl rfl rfl (by kernel_rfl) (by kernel_rfl) (by exact nop_) rfl (fun w hw => all_ hw) ?_
            refine sd_yes2 14 rfl (by exact gd_) (by kernel_rfl) (by kernel_rfl) (by exact nop_) (PuI.all (by exact pv_Mgl)) rfl (fun w hw => all_ hw) ?_
            refine sd_yes2 15 rfl (by exact gd_) (by kernel_rfl) (by kernel_rfl) (by exact nop_) (PuI.all (by exact pv_Mgl)) rfl (fun w hw => all_ hw) ?_
            first | refine sd_yes2 16 rfl (by exact gd_) (by kernel_rfl) (by kernel_rfl) (by exact nop_) (PuI.all (by exact pv_Mgl)) rfl (fun w hw => all_ hw) ?_ | refine sd_off2 16 rfl (by exact gd_) (by kernel_rfl) (by kernel_rfl) (by exact nop_) rfl (fun w hw => all_ hw) ?_ | refine sd_off3 16 rfl rfl rfl (by kernel_rfl) (by kernel_rfl) (by exact nop_) rfl (fun w hw => all_ hw) ?_
            first | refine sd_yes2 17 rfl (by exact gd_) (by kernel_rfl) (by kernel_rfl) (by exact nop_) (PuI.all (by exact pv_Mgl)) rfl (fun w hw => all_ hw) ?_ | refine sd_off2 17 rfl (by exact gd_) (by kernel_rfl) (by kernel_rfl) (by exact nop_) rfl (fun w hw => all_ hw) ?_ | refine sd_off3 17 rfl rfl rfl (by kernel_rfl) (by kernel_rfl) (by exact nop_) rfl (fun w hw => all_ hw) ?_
            first | refine sd_yes2 18 rfl (by exact gd_) (by kernel_rfl) (by kernel_rfl) (by exact nop_) (PuI.all (by exact pv_Mgl)) rfl (fun w hw => all_ hw) ?_ | refine sd_off2 18 rfl (by exact gd_) (by kernel_rfl) (by kernel_rfl) (by exact nop_) rfl (fun w hw => all_ hw) ?_ | refine sd_off3 18 rfl rfl rfl (by kernel_rfl) (by kernel_rfl) (by exact nop_) rfl (fun w hw => all_ hw) ?_
            first | refine sd_yes2 19 rfl (by exact gd_) (by kernel_rfl) (by kernel_rfl) (by exact nop_) (PuI.all (by exact pv_Mgl)) rfl (fun w hw => all_ hw) ?_ | refine sd_off2 19 rfl (by exact gd_) (by kernel_rfl) (by kernel_rfl) (by exact nop_) rfl (fun w hw => all_ hw) ?_ | refine sd_off3 19 rfl rfl rfl (by kernel_rfl) (by kernel_rfl) (by exact nop_) rfl (fun w hw => all_ hw) ?_
            first | refine sd_yes2 20 rfl (by exact gd_) (by kernel_rfl) (by kernel_rfl) (by exact nop_) (pu_build (v := .agg zm.toArray) rfl build_zm) rfl (fun w hw => all_ hw) ?_ | refine sd_off2 20 rfl (by exact gd_) (by kernel_rfl) (by kernel_rfl) (by exact nop_) rfl (fun w hw => all_ hw) ?_ | refine sd_off3 20 rfl rfl rfl (by kernel_rfl) (by kernel_rfl) (by exact nop_) rfl (fun w hw => all_ hw) ?_
            refine sd_one 21 (by kernel_rfl) (sa_sl 21 rfl ?_)
            repeat refine su_Mgl ?_
            refine sl_call rfl rfl (by kernel_rfl) rfl Sub.refl (Same_ok (a := mZ) (b := mZ) mZ_v mZ_v mZ_len mZ_len) ?_
            rintro _ -
            rw [sameM_iff.2 (rfl : mZ.ab = mZ.ab)]
            refine sl_nil ?_
            refine se_sd (fun _ w hw => all_ hw) ?_
            first | refine sd_yes2 22 rfl (by exact gd_) (by kernel_rfl) (by kernel_rfl) (by exact nop_) (PuI.all (by exact pv_Mgl)) rfl (fun w hw => all_ hw) ?_ | refine sd_off2 22 rfl (by exact gd_) (by kernel_rfl) (by kernel_rfl) (by exact nop_) rfl (fun w hw => all_ hw) ?_ | refine sd_off3 22 rfl rfl rfl (by kernel_rfl) (by kernel_rfl) (by exact nop_) rfl (fun w hw => all_ hw) ?_
            first | refine sd_yes2 23 rfl (by exact gd_) (by kernel_rfl) (by kernel_rfl) (by exact nop_) (PuI.all (by exact pv_Mgl)) rfl (fun w hw => all_ hw) ?_ | refine sd_off2 23 rfl (by exact gd_) (by kernel_rfl) (by kernel_rfl) (by exact nop_) rfl (fun w hw => all_ hw) ?_ | refine sd_off3 23 rfl rfl rfl (by kernel_rfl) (by kernel_rfl) (by exact nop_) rfl (fun w hw => all_ hw) ?_
            refine sd_yes2 24 rfl (by exact gd_) (by kernel_rfl) (by kernel_rfl) (by exact nop_) (PuI.all (by exact pv_Mgl)) rfl (fun w hw => all_ hw) ?_
            refine sd_done (by kernel_rfl) ?_
            refine go_Mgl ?_
            exact se_round (j + 1) (by exact has_) (by exact sub_) hlt (by omega)
        · repeat refine su_Mgl ?_
          refine sl_nil ?_
          refine se_sd (fun _ w hw => all_ hw) ?_
          refine sd_one 8 (by kernel_rfl) (sa_sl 8 rfl ?_)
          repeat refine su_Mgl ?_
          refine sl_nil ?_
          refine se_sd (fun _ w hw => all_ hw) ?_
          refine sd_one 9 (by kernel_rfl) (sa_sl 9 rfl ?_)
          repeat refine su_Mgl ?_
          refine sl_nil ?_
          refine se_sd (fun _ w hw => all_ hw) ?_
          first | refine sd_yes2 12 rfl (by exact gd_) (by kernel_rfl) (by kernel_rfl) (by exact nop_) (PuI.all (by exact pv_Mgl)) rfl (fun w hw => all_ hw) ?_ | refine sd_off2 12 rfl (by exact gd_) (by kernel_rfl) (by kernel_rfl) (by exact nop_) rfl (fun w hw => all_ hw) ?_ | refine sd_off3 12 rfl rfl rfl (by kernel_rfl) (by kernel_rfl) (by exact nop_) rfl (fun w hw => all_ hw) ?_
          first | refine sd_yes2 13 rfl (by exact gd_) (by kernel_rfl) (by kernel_rfl) (by exact nop_) (PuI.all (by exact pv_Mgl)) rfl (fun w hw => all_ hw) ?_ | refine sd_off2 13 rfl (by exact gd_) (by kernel_rfl) (by kernel_rfl) (by exact nop_) rfl (fun w hw => all_ hw) ?_ | refine sd_off3 13 rfl rfl rfl (by kernel_rfl) (by kernel_rfl) (by exact nop_) rfl (fun w hw => all_ hw) ?_
          refine sd_yes2 14 rfl (by exact gd_) (by kernel_rfl) (by kernel_rfl) (by exact nop_) (PuI.all (by exact pv_Mgl)) rfl (fun w hw => all_ hw) ?_
          refine sd_yes2 15 rfl (by exact gd_) (by kernel_rfl) (by kernel_rfl) (by exact nop_) (PuI.all (by exact pv_Mgl)) rfl (fun w hw => all_ hw) ?_
          first | refine sd_yes2 16 rfl (by exact gd_) (by kernel_rfl) (by kernel_rfl) (by exact nop_) (PuI.all (by exact pv_Mgl)) rfl (fun w hw => all_ hw) ?_ | refine sd_off2 16 rfl (by exact gd_) (by kernel_rfl) (by kernel_rfl) (by exact nop_) rfl (fun w hw => all_ hw) ?_ | refine sd_off3 16 rfl rfl rfl (by kernel_rfl) (by kernel_rfl) (by exact nop_) rfl (fun w hw => all_ hw) ?_
          first | refine sd_yes2 17 rfl (by exact gd_) (by kernel_rfl) (by kernel_rfl) (by exact nop_) (PuI.all (by exact pv_Mgl)) rfl (fun w hw => all_ hw) ?_ | refine sd_off2 17 rfl (by exact gd_) (by kernel_rfl) (by kernel_rfl) (by exact nop_) rfl (fun w hw => all_ hw) ?_ | refine sd_off3 17 rfl rfl rfl (by kernel_rfl) (by kernel_rfl) (by exact nop_) rfl (fun w hw => all_ hw) ?_
          first | refine sd_yes2 18 rfl (by exact gd_) (by kernel_rfl) (by kernel_rfl) (by exact nop_) (PuI.all (by exact pv_Mgl)) rfl (fun w hw => all_ hw) ?_ | refine sd_off2 18 rfl (by exact gd_) (by kernel_rfl) (by kernel_rfl) (by exact nop_) rfl (fun w hw => all_ hw) ?_ | refine sd_off3 18 rfl rfl rfl (by kernel_rfl) (by kernel_rfl) (by exact nop_) rfl (fun w hw => all_ hw) ?_
          first | refine sd_yes2 19 rfl (by exact gd_) (by kernel_rfl) (by kernel_rfl) (by exact nop_) (PuI.all (by exact pv_Mgl)) rfl (fun w hw => all_ hw) ?_ | refine sd_off2 19 rfl (by exact gd_) (by kernel_rfl) (by kernel_rfl) (by exact nop_) rfl (fun w hw => all_ hw) ?_ | refine sd_off3 19 rfl rfl rfl (by kernel_rfl) (by kernel_rfl) (by exact nop_) rfl (fun w hw => all_ hw) ?_
          first | refine sd_yes2 20 rfl (by exact gd_) (by kernel_rfl) (by kernel_rfl) (by exact nop_) (pu_build (v := .agg zm.toArray) rfl build_zm) rfl (fun w hw => all_ hw) ?_ | refine sd_off2 20 rfl (by exact gd_) (by kernel_rfl) (by kernel_rfl) (by exact nop_) rfl (fun w hw => all_ hw) ?_ | refine sd_off3 20 rfl rfl rfl (by kernel_rfl) (by kernel_rfl) (by exact nop_) rfl (fun w hw => all_ hw) ?_
          refine sd_one 21 (by kernel_rfl) (sa_sl 21 rfl ?_)
          repeat refine su_Mgl ?_
          refine sl_call rfl rfl (by kernel_rfl) rfl Sub.refl (Same_ok (a := mZ) (b := mZ) mZ_v mZ_v mZ_len mZ_len) ?_
          rintro _ -
          rw [sameM_iff.2 (rfl : mZ.ab = mZ.ab)]
          refine sl_nil ?_
          refine se_sd (fun _ w hw => all_ hw) ?_
          first | refine sd_yes2 22 rfl (by exact gd_) (by kernel_rfl) (by kernel_rfl) (by exact nop_) (PuI.all (by exact pv_Mgl)) rfl (fun w hw => all_ hw) ?_ | refine sd_off2 22 rfl (by exact gd_) (by kernel_rfl) (by kernel_rfl) (by exact nop_) rfl (fun w hw => all_ hw) ?_ | refine sd_off3 22 rfl rfl rfl (by kernel_rfl) (by kernel_rfl) (by exact nop_) rfl (fun w hw => all_ hw) ?_
          first | refine sd_yes2 23 rfl (by exact gd_) (by kernel_rfl) (by kernel_rfl) (by exact nop_) (PuI.all (by exact pv_Mgl)) rfl (fun w hw => all_ hw) ?_ | refine sd_off2 23 rfl (by exact gd_) (by kernel_rfl) (by kernel_rfl) (by exact nop_) rfl (fun w hw => all_ hw) ?_ | refine sd_off3 23 rfl rfl rfl (by kernel_rfl) (by kernel_rfl) (by exact nop_) rfl (fun w hw => all_ hw) ?_
          refine sd_yes2 24 rfl (by exact gd_) (by kernel_rfl) (by kernel_rfl) (by exact nop_) (PuI.all (by exact pv_Mgl)) rfl (fun w hw => all_ hw) ?_
          refine sd_done (by kernel_rfl) ?_
          refine go_Mgl ?_
          exact se_round (j + 1) (by exact has_) (by exact sub_) hlt (by omega)
    · obtain rfl : j = 4 := by omega
      refine go_Mgl ?_
      exact se_mid () (by exact has_) (by exact sub_) trivial
  rintro _ -
  refine go_Mgl ?_
  have hd1 := Decode_ok (hrds.mono2 (Z' := own 5 1 (some ⟨g3, 0, none⟩) (N + 1) c3 (bytes (bs ++ [a3])) :: F :: own 5 1 (some ⟨g2, 0, none⟩) N c2 (bytes (bs.set k a3)) :: K) Sub.refl)
  rw [hsh k hkN, DecA_err] at hd1
  refine sl_call rfl rfl (by kernel_rfl) rfl (by exact sub_) hd1 ?_
  rintro _ -
  refine go_Mgl ?_
  refine sl_alloc rfl rfl rfl ?_; intro g16
  refine go_Mgl ?_
  refine sl_build (size := 1) (e := 5) (cells := bytes [a3]) rfl (fun W => by kernel_rfl) rfl (by decide) rfl ?_
  intro gd
  refine sl_sub (L' := own 5 1 (some ⟨g3, 0, none⟩) (N + 1) c3 (bytes (bs ++ [a3])) :: F :: own 5 1 (some ⟨gd, 0, none⟩) 1 1 (bytes [a3]) :: K) (by exact sub_) ?_
  refine sl_ent (hF _) ?_
  refine sl_app (A := some ⟨g1, 0, none⟩) (k := N) (c := c1) rfl .here rfl (Vw.of_own (e := 5) (A := some ⟨gd, 0, none⟩) (c := 1) (by exact at_)) (one_bytes _) rfl Try.info5 (by decide) (by decide) rfl (by unfold maxLen; omega) (by omega) ?_
  intro A7 c7
  rw [← bytes_app]
  refine sl_know (fun w hw => (own_len (e := 5) (size := 1) (A := A7) hw (by exact at_)).2) ?_
  rintro ⟨l7, l8⟩
  have hd2 := Decode_ok (K := own 5 1 A7 (N + 1) c7 (bytes (bs ++ [a3])) :: own 5 1 (some ⟨gd, 0, none⟩) 1 1 (bytes [a3]) :: K) (A := A7) (n := N + 1) (c := c7) (bs := bs ++ [a3]) ⟨Vw.of_own .here, l7, by omega, l8, hrdm.len, hrdm.okb⟩
  rw [hmo, DecA_err] at hd2
  refine sl_call rfl rfl (by kernel_rfl) rfl (by exact sub_) hd2 ?_
  rintro _ -
  refine go_Mgl ?_
  refine sl_alloc rfl rfl rfl ?_; intro g18
  refine go_Mgl ?_
  exact se_ret1 () trivial rfl rfl (by exact sub_)
end Go.Proofs.Ytinomilmccopnaa
