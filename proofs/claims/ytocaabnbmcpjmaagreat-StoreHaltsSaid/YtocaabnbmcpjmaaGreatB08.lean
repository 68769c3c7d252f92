/- Several texts of one claim, one behind the other (Rq3). -/
import Derived.Test.YtocaabnbmcpjmaaGreatB07
import Derived.Test.YtocaabnbmcpjmaaGreatB04
import Derived.Test.YtocaabnbmcpjmaaGreatB06
set_option linter.unusedVariables false
set_option linter.unusedSimpArgs false
/- Finding, a copy, one more at its place. -/
namespace Go.Proofs.YtocaabnbmcpjmaaGreat
open Go.RowKit
attribute [local irreducible] Go.Calls Go.Exit.then Go.Exit.inBlock Go.bodyPost Go.Code.wp Go.wpList

def zSeen : Value := .agg (bytes (List.replicate 16 0) ++ [Value.int .u64 0, Value.int .i64 0]).toArray
theorem Tryz.infoSeen : (Tryz.prog.info? 62).map (fun i => (i.zero, i.size, i.bytes)) = some (some zSeen, 18, 32) := by kernel_rfl

theorem nth_Rq3 {φ : Prop} (h : φ := by (first | rfl | first | exact Seen.nt _ | exact Seen.nc _)) : φ := h
theorem mid_Rq3 {φ : Prop} (h : φ := by (first | first | exact Seen.mid _ | exact Mid.all | exact Mid.head)) : φ := h
theorem sz_Rq3 {φ : Prop} (h : φ := by (first | rfl | (simp only [Seen.len, bytes_length, Id.len]; rfl; first | done | fail))) : φ := h
theorem one_Rq3 {φ : Prop} (h : φ := by (first | assumption | exact one_bytes _ | (simp only [List.mem_cons, List.not_mem_nil, or_false, forall_eq_or_imp, forall_eq]; decide) | exact one_bytes _ | (intro v hv; (repeat (rcases List.mem_cons.1 hv with rfl | hv; rfl)); cases hv))) : φ := h
theorem set_Rq3 {φ : Prop} (h : φ := by (first | (fail) | ((repeat (first | exact SetAt.here | apply SetAt.there)); first | done | fail))) : φ := h
theorem cl_Rq3 {φ : Prop} (h : φ := by first | rfl | exact .t | exact .f | exact .t (by omega) | exact .f (by omega) | exact .u | exact .i (by (first | exact .t (by omega) | exact .f (by omega) | exact .u | exact .i (by omega) | exact .v (by omega) | exact .b (by omega) | exact .w | rfl | omega)) | exact .v (by omega) | exact .b (by omega) | exact .q (by omega) | exact .w | exact .b (by exact at_) rfl (by exact nth_Rq3) | exact .w (by exact at_) rfl rfl (by exact sz_Rq3) | exact .s (by exact at_) (by exact mid_Rq3) rfl rfl (by exact sz_Rq3) | exact .z rfl rfl ⟨by kernel_rfl⟩ | exact .b rfl rfl ⟨by kernel_rfl⟩ | exact .a rfl rfl ⟨by kernel_rfl⟩ | exact .o rfl | exact .s | exact .n | exact .p rfl | exact .q rfl | exact .c rfl | exact .d rfl | exact .n rfl rfl (by omega) | exact .a rfl rfl (by omega) | exact .p rfl rfl (by omega) (by omega) | exact .y rfl rfl (by omega) (by omega) | exact .o (by exact at_) (by omega) rfl (by exact nth_Rq3) | exact .m (by exact at_) (by omega) (by exact mid_Rq3) rfl rfl (by exact sz_Rq3) | exact .mlen (by exact at_) rfl | exact .t (by exact at_) rfl rfl (by first | exact True.intro | rfl) (by assumption) | exact .f (by exact at_) rfl rfl (by first | exact True.intro | rfl) (by assumption) rfl | exact .t1 (by exact at_) rfl rfl (by first | exact True.intro | rfl) (by assumption) | exact .f1 (by exact at_) rfl rfl (by first | exact True.intro | rfl) (by assumption) rfl | exact .tk (by exact at_) rfl (by assumption) (by assumption) | exact .fk (by exact at_) rfl (by assumption) (by assumption) rfl | exact .tk1 (by exact at_) rfl (by assumption) (by assumption) | exact .fk1 (by exact at_) rfl (by assumption) (by assumption) rfl | exact .r rfl rfl (by omega) (by omega) (by exact nth_Rq3) rfl | exact .s rfl (by omega) (by assumption) | exact at_ | assumption | exact .r rfl rfl | exact .h rfl rfl rfl (by omega) | exact .l rfl rfl rfl (by omega) (by omega) | exact .g rfl rfl rfl rfl (by omega) (by omega) | exact .h rfl rfl (toN_ (by omega)) (by omega) | exact .l rfl rfl (toN_ (by omega)) (by omega) (by omega) | exact .g rfl rfl (toN_ (by omega)) (toN_ (by omega)) (by omega) (by omega) | exact .o (by decide) | exact .f (by decide) | exact .n (by omega) (by first | decide | (show _ ≤ ((64 : Nat) : Int); omega)) | (constructor; (repeat (first | exact .t (by omega) | exact .f (by omega) | exact .u | exact .i (by omega) | exact .v (by omega) | exact .b (by omega) | exact .w | rfl | omega)); first | done | fail) | omega | (show _ ≤ ((64 : Nat) : Int); omega)) : φ := h
theorem pv_Rq3 {φ : Prop} (h : φ := by constructor; (repeat exact cl_Rq3); first | done | fail) : φ := h
theorem su_Rq3 {φ ψ : Prop} (k : ψ) (h : Hide ψ → φ := by (intro k; (first | refine sl_pu (PuI.sep (by exact pv_Rq3)) rfl ?_ | refine sl_yes rfl rfl ?_ | refine sl_no rfl rfl rfl ?_ | refine sl_off rfl rfl rfl ?_ | (fail)); exact k.out)) : φ := h ⟨k⟩
theorem rq_Rq3 {φ ψ : Prop} (k : ψ) (h : Hide ψ → φ := by (intro k; (first | refine wq_pu (PuI.sep (by exact pv_Rq3)) rfl ?_ | refine wq_yes rfl rfl ?_ | refine wq_no rfl rfl rfl ?_ | refine wq_off rfl rfl rfl ?_ | (fail)); exact k.out)) : φ := h ⟨k⟩
theorem sto_Rq3 {φ ψ : Prop} (k : ψ) (h : Hide ψ → φ := by (intro k; (first | refine sl_store rfl (by exact pick_) rfl rfl (by kernel_rfl) (by exact set_Rq3) ?_ | refine sl_store_whole rfl (by exact pick_) rfl (by exact sz_Rq3) (by exact sz_Rq3) (by exact one_Rq3) ?_); exact k.out)) : φ := h ⟨k⟩
theorem go_Rq3 {φ ψ : Prop} (k : ψ) (h : Hide ψ → φ := by (intro k; (repeat (first | refine su_Rq3 ?_ | refine so_ ?_ | refine sto_Rq3 ?_)); exact k.out)) : φ := h ⟨k⟩

set_option maxRecDepth 100000 in
theorem find_ok {L : List Fa} {x c : Nat} {A : Option Addr} {ss : List Seen} {lim : Int} (id : Id) (hx : At (blk x 159 [.slice A ss.length c, .int .i64 lim]) L) (hr : Vw L (fun w => Reads w 18 A ss.length (rows Seen.cells ss))) (hs : Srt ss) (hn : ss.length ≤ 4611686018427387904) :
    Fn Tryz.prog 99 #[.pointer (some ⟨x, 0, none⟩), id.v] L (Ret (fun _ : Unit => True) (fun _ => .tuple #[.int .i64 (posI ss id), .bool (hasI ss id)]) (fun _ => L)) := by
  refine fn_enter Tryz.func99 rfl _ Tryz.ntmps99 (by simp) [(0, .pointer (some ⟨x, 0, none⟩)), (1, id.v)] (args_of (by simp)) ?_
  refine go_Rq3 ?_
  refine sl_box rfl rfl rfl ?_; intro ga
  refine go_Rq3 ?_
  refine sq_region (by kernel_rfl) (by kernel_rfl) ?_
  repeat refine rq_Rq3 ?_
  refine WQ_call rfl rfl (by kernel_rfl) rfl (search_ok id (hr.mono (by exact sub_)) hs hn) ?_
  repeat refine rq_Rq3 ?_
  refine sq_end ?_
  refine go_Rq3 ?_
  refine se_ret2 () trivial rfl rfl rfl rfl (by exact sub_)

set_option maxRecDepth 100000 in
theorem rclone_ok {K : List Fa} {A : Option Addr} {n c : Nat} {xs : List Value} (hr : Vw K (fun w => Reads w 18 A n xs)) (h1 : ∀ u ∈ xs, u.oneCell' = true) (hn : n ≤ 1000000000) :
    Fn Tryz.prog 117 #[.slice A n c] K (Ret (fun _ : Option Addr × Nat => True) (fun p => .slice p.1 n p.2) (fun p => own 62 18 p.1 n p.2 xs :: K)) := by
  refine fn_know (φ := A = none → n = 0 ∧ xs = []) (fun w hw hA => ?_) (fun hA => ?_)
  · subst hA
    have h := hr w hw
    rcases Nat.eq_zero_or_pos n with h0 | h0
    · subst h0
      exact ⟨rfl, List.eq_nil_of_length_eq_zero (by simpa using h.1)⟩
    · obtain ⟨_, h2, _⟩ := h.2 h0
      cases h2
  refine fn_enter Tryz.func117 rfl _ Tryz.ntmps117 (by simp) [(0, .slice A n c)] (args_of (by simp)) ?_
  cases A with
  | none =>
    obtain ⟨rfl, rfl⟩ := hA rfl
    refine go_Rq3 ?_
    exact se_ret1 (none, 0) trivial rfl rfl (Sub.own_nil Sub.refl)
  | some ad =>
    refine go_Rq3 ?_
    refine sl_build0 (size := 18) rfl (fun W => by kernel_rfl) rfl ?_
    intro g
    refine go_Rq3 ?_
    refine sl_app rfl (by exact pick_) rfl (hr.mono (by exact sub_)) h1 rfl Tryz.infoSeen (by decide) (by decide) rfl (by unfold maxLen; omega) (by omega) ?_
    intro A' c'
    rw [Nat.zero_add, List.nil_append]
    refine go_Rq3 ?_
    exact se_ret1 (A', c') trivial rfl rfl (by exact sub_)
end Go.Proofs.YtocaabnbmcpjmaaGreat
