/- Several texts of one claim, one behind the other (Dk5, Lit, Dka, Dkt, Str, Raw, Pt). -/
import Derived.Test.YtemhhhikopemmaaB12
import Derived.Test.YtemhhhikopemmaaB09
import Derived.Test.YtemhhhikopemmaaB14
import Derived.Test.YtemhhhikopemmaaB13
import Derived.Test.YtemhhhikopemmaaB10
import Derived.Lib.Bytes
import Derived.Test.YtemhhhikopemmaaB03
/- A nil disk. -/
namespace Go.Proofs.Ytemhhhikopemmaa
open Go.RowKit Go.MapKept
attribute [local irreducible] Go.Calls Go.Exit.then Go.Exit.inBlock Go.bodyPost Go.Code.wp Go.wpList
theorem nth_Dk5 {φ : Prop} (h : φ := by (first | rfl | rfl)) : φ := h
theorem mid_Dk5 {φ : Prop} (h : φ := by (first | exact Mid.all | exact Mid.all | exact Mid.head)) : φ := h
theorem sz_Dk5 {φ : Prop} (h : φ := by (first | rfl | (rfl; first | done | fail))) : φ := h
theorem one_Dk5 {φ : Prop} (h : φ := by (first | assumption | exact one_bytes _ | (simp only [List.mem_cons, List.not_mem_nil, or_false, forall_eq_or_imp, forall_eq]; decide) | exact one_bytes _)) : φ := h
theorem set_Dk5 {φ : Prop} (h : φ := by (first | (fail) | ((repeat (first | exact SetAt.here | apply SetAt.there)); first | done | fail))) : φ := h
theorem cl_Dk5 {φ : Prop} (h : φ := by first | rfl | exact .t | exact .f | exact .t (by omega) | exact .f (by omega) | exact .u | exact .i (by (first | exact .t (by omega) | exact .f (by omega) | exact .u | exact .i (by omega) | exact .v (by omega) | exact .b (by omega) | exact .w | rfl | omega)) | exact .v (by omega) | exact .b (by omega) | exact .q (by omega) | exact .w | exact .b (by exact at_) rfl (by exact nth_Dk5) | exact .w (by exact at_) rfl rfl (by exact sz_Dk5) | exact .s (by exact at_) (by exact mid_Dk5) rfl rfl (by exact sz_Dk5) | exact .z rfl rfl ⟨by kernel_rfl⟩ | exact .b rfl rfl ⟨by kernel_rfl⟩ | exact .a rfl rfl ⟨by kernel_rfl⟩ | exact .o rfl | exact .s | exact .n | exact .p rfl | exact .q rfl | exact .c rfl | exact .d rfl | exact .n rfl rfl (by omega) | exact .a rfl rfl (by omega) | exact .p rfl rfl (by omega) (by omega) | exact .y rfl rfl (by omega) (by omega) | exact .o (by exact at_) (by omega) rfl (by exact nth_Dk5) | exact .m (by exact at_) (by omega) (by exact mid_Dk5) rfl rfl (by exact sz_Dk5) | exact .mlen (by exact at_) rfl | exact .t (by exact at_) rfl rfl (by first | exact True.intro | rfl) (by assumption) | exact .f (by exact at_) rfl rfl (by first | exact True.intro | rfl) (by assumption) rfl | exact .t1 (by exact at_) rfl rfl (by first | exact True.intro | rfl) (by assumption) | exact .f1 (by exact at_) rfl rfl (by first | exact True.intro | rfl) (by assumption) rfl | exact .r rfl rfl (by omega) (by omega) (by exact nth_Dk5) rfl | exact .s rfl (by omega) (by assumption) | exact at_ | assumption | exact .r rfl rfl | exact .h rfl rfl rfl (by omega) | exact .l rfl rfl rfl (by omega) (by omega) | exact .g rfl rfl rfl rfl (by omega) (by omega) | exact .h rfl rfl (toN_ (by omega)) (by omega) | exact .l rfl rfl (toN_ (by omega)) (by omega) (by omega) | exact .g rfl rfl (toN_ (by omega)) (toN_ (by omega)) (by omega) (by omega) | exact .o (by decide) | exact .f (by decide) | exact .n (by omega) (by first | decide | (show _ ≤ ((64 : Nat) : Int); omega)) | (constructor; (repeat (first | exact .t (by omega) | exact .f (by omega) | exact .u | exact .i (by omega) | exact .v (by omega) | exact .b (by omega) | exact .w | rfl | omega)); first | done | fail) | omega | (show _ ≤ ((64 : Nat) : Int); omega)) : φ := h
theorem pv_Dk5 {φ : Prop} (h : φ := by constructor; (repeat exact cl_Dk5); first | done | fail) : φ := h
theorem su_Dk5 {φ ψ : Prop} (k : ψ) (h : Hide ψ → φ := by (intro k; (first | refine sl_pu (PuI.sep (by exact pv_Dk5)) rfl ?_ | refine sl_yes rfl rfl ?_ | refine sl_no rfl rfl rfl ?_ | refine sl_off rfl rfl rfl ?_ | (fail)); exact k.out)) : φ := h ⟨k⟩
theorem rq_Dk5 {φ ψ : Prop} (k : ψ) (h : Hide ψ → φ := by (intro k; (first | refine wq_pu (PuI.sep (by exact pv_Dk5)) rfl ?_ | refine wq_yes rfl rfl ?_ | refine wq_no rfl rfl rfl ?_ | refine wq_off rfl rfl rfl ?_ | (fail)); exact k.out)) : φ := h ⟨k⟩
theorem sto_Dk5 {φ ψ : Prop} (k : ψ) (h : Hide ψ → φ := by (intro k; (first | refine sl_store rfl (by exact pick_) rfl rfl (by kernel_rfl) (by exact set_Dk5) ?_ | refine sl_store_whole rfl (by exact pick_) rfl (by exact sz_Dk5) (by exact sz_Dk5) (by exact one_Dk5) ?_); exact k.out)) : φ := h ⟨k⟩
theorem go_Dk5 {φ ψ : Prop} (k : ψ) (h : Hide ψ → φ := by (intro k; (repeat (first | refine su_Dk5 ?_ | refine so_ ?_ | refine sto_Dk5 ?_)); exact k.out)) : φ := h ⟨k⟩
set_option maxRecDepth 100000 in
set_option maxHeartbeats 2000000 in
theorem nilRead {K : List Fa} {s : ByteArray} :
    Fn Try.prog 31 #[.pointer none, .string s] K (Ret (fun _ : Unit => True) (fun _ => .tuple #[.slice none 0 0, .int .i64 1]) (fun _ => K)) := by
  refine fn_enter Try.func31 rfl _ Try.ntmps31 (by simp) [(0, .pointer none), (1, .string s)] (args_of (by simp)) ?_
  refine go_Dk5 ?_
  exact se_ret2 () trivial rfl rfl rfl rfl (by exact sub_)
set_option maxRecDepth 100000 in
set_option maxHeartbeats 2000000 in
theorem nilAppend {K : List Fa} {s : ByteArray} {v : Value} :
    Fn Try.prog 19 #[.pointer none, .string s, v] K (Ret (fun _ : Unit => True) (fun _ => .int .i64 1) (fun _ => K)) := by
  refine fn_enter Try.func19 rfl _ Try.ntmps19 (by simp) [(0, .pointer none), (1, .string s), (2, v)] (args_of (by simp)) ?_
  refine go_Dk5 ?_
  exact se_ret1 () trivial rfl rfl (by exact sub_)
set_option maxRecDepth 100000 in
set_option maxHeartbeats 2000000 in
theorem nilSync {K : List Fa} {s : ByteArray} :
    Fn Try.prog 20 #[.pointer none, .string s] K (Ret (fun _ : Unit => True) (fun _ => .int .i64 1) (fun _ => K)) := by
  refine fn_enter Try.func20 rfl _ Try.ntmps20 (by simp) [(0, .pointer none), (1, .string s)] (args_of (by simp)) ?_
  refine go_Dk5 ?_
  exact se_ret1 () trivial rfl rfl (by exact sub_)
set_option maxRecDepth 100000 in
set_option maxHeartbeats 2000000 in
theorem nilCut {K : List Fa} {s : ByteArray} {k : Int} :
    Fn Try.prog 33 #[.pointer none, .string s, .int .i64 k] K (Ret (fun _ : Unit => True) (fun _ => .int .i64 1) (fun _ => K)) := by
  refine fn_enter Try.func33 rfl _ Try.ntmps33 (by simp) [(0, .pointer none), (1, .string s), (2, .int .i64 k)] (args_of (by simp)) ?_
  refine go_Dk5 ?_
  exact se_ret1 () trivial rfl rfl (by exact sub_)
set_option maxRecDepth 100000 in
set_option maxHeartbeats 2000000 in
theorem nilTurn {K : List Fa} {s : ByteArray} {k : Int} :
    Fn Try.prog 21 #[.pointer none, .string s, .int .i64 k] K (Ret (fun _ : Unit => True) (fun _ => .int .i64 1) (fun _ => K)) := by
  refine fn_enter Try.func21 rfl _ Try.ntmps21 (by simp) [(0, .pointer none), (1, .string s), (2, .int .i64 k)] (args_of (by simp)) ?_
  refine go_Dk5 ?_
  exact se_ret1 () trivial rfl rfl (by exact sub_)
set_option maxRecDepth 100000 in
set_option maxHeartbeats 2000000 in
theorem nilLoose {K : List Fa} {s : ByteArray} :
    Fn Try.prog 32 #[.pointer none, .string s] K (Ret (fun _ : Unit => True) (fun _ => .int .i64 0) (fun _ => K)) := by
  refine fn_enter Try.func32 rfl _ Try.ntmps32 (by simp) [(0, .pointer none), (1, .string s)] (args_of (by simp)) ?_
  refine go_Dk5 ?_
  refine sl_call rfl rfl (by kernel_rfl) rfl Sub.refl hasD_nil ?_
  rintro _ -
  refine go_Dk5 ?_
  exact se_ret1 () trivial rfl rfl (by exact sub_)
set_option maxRecDepth 100000 in
set_option maxHeartbeats 2000000 in
theorem nilUsed {K : List Fa}  :
    Fn Try.prog 35 #[.pointer none] K (Ret (fun _ : Unit => True) (fun _ => .int .i64 0) (fun _ => K)) := by
  refine fn_enter Try.func35 rfl _ Try.ntmps35 (by simp) [(0, .pointer none)] (args_of (by simp)) ?_
  refine go_Dk5 ?_
  exact se_ret1 () trivial rfl rfl (by exact sub_)
set_option maxRecDepth 100000 in
set_option maxHeartbeats 2000000 in
theorem nilNames {K : List Fa}  :
    Fn Try.prog 28 #[.pointer none] K (Ret (fun _ : Unit => True) (fun _ => .slice none 0 0) (fun _ => K)) := by
  refine fn_enter Try.func28 rfl _ Try.ntmps28 (by simp) [(0, .pointer none)] (args_of (by simp)) ?_
  refine go_Dk5 ?_
  exact se_ret1 () trivial rfl rfl (by exact sub_)
set_option maxRecDepth 100000 in
set_option maxHeartbeats 2000000 in
theorem nilCopy {K : List Fa}  :
    Fn Try.prog 29 #[.pointer none] K (Ret (fun _ : Unit => True) (fun _ => .pointer none) (fun _ => K)) := by
  refine fn_enter Try.func29 rfl _ Try.ntmps29 (by simp) [(0, .pointer none)] (args_of (by simp)) ?_
  refine go_Dk5 ?_
  exact se_ret1 () trivial rfl rfl (by exact sub_)
set_option maxRecDepth 100000 in
set_option maxHeartbeats 2000000 in
theorem nilCrash {K : List Fa} {k : Int} :
    Fn Try.prog 30 #[.pointer none, .int .i64 k] K (Ret (fun _ : Unit => True) (fun _ => .tuple #[]) (fun _ => K)) := by
  refine fn_enter Try.func30 rfl _ Try.ntmps30 (by simp) [(0, .pointer none), (1, .int .i64 k)] (args_of (by simp)) ?_
  refine go_Dk5 ?_
  refine sl_call rfl rfl (by kernel_rfl) rfl Sub.refl nilNames ?_
  rintro _ -
  refine go_Dk5 ?_
  refine sc_for (fun _ : Unit => [(10, .int .i64 0), (11, .int .i64 0)]) (fun _ => K) (fun _ => True) (fun _ => 0) () (by exact has_) (by exact sub_) trivial ?_
  rintro _ -
  refine go_Dk5 ?_
  exact se_end0 () trivial rfl rfl (by exact sub_)
end Go.Proofs.Ytemhhhikopemmaa
/- A literal's bytes, as the run-time marks them: read only. No program is in sight. -/
namespace Go.Proofs.Ytemhhhikopemmaa
open Go.RowKit
def LitP (e : TypeId) (g : Nat) (cs : List Value) (w : World) : Prop := w.heap[g]? = some (.cells cs.toArray e (cs.length, cs.length + 1))
def lit (e : TypeId) (g : Nat) (cs : List Value) : Fa := ⟨LitP e g cs, fun k => k = g, fun h e => by rw [e]; exact (Array.getElem?_eq_some_iff.1 h).1, fun h hF hn => (hF.block g (Array.getElem?_eq_some_iff.1 h).1 (hn g rfl)).trans h⟩
theorem lit_P {e : TypeId} {g : Nat} {cs : List Value} {w : World} : (lit e g cs).P w = LitP e g cs w := rfl
theorem lit_F {e : TypeId} {g k : Nat} {cs : List Value} : (lit e g cs).F k = (k = g) := rfl
attribute [irreducible] lit
section
variable {P : Program} {ops : Array Oper} {Q : Exit → Act → World → Prop} {n : Nat} {l : Env} {L L' : List Fa} {rest : List Oper} {d : Tmp} {ty t e : TypeId} {pos : String} {after : Array Edge} {x : Operand} {g k : Nat} {cs : List Value}
theorem lit_vw (h : At (lit e g cs) L) : Vw L (fun w => Reads w 1 (some ⟨g, 0, none⟩) cs.length cs) := fun w hw => by
  have h1 : LitP e g cs w := lit_P ▸ hw.at h
  unfold LitP at h1
  refine ⟨(Nat.mul_one _).symm, fun _ => ⟨_, rfl, fun j v hv => ?_⟩⟩
  rw [add_none, Nat.zero_add]
  simp only [World.cell?, h1]
  simpa using hv
theorem sl_mark (hx : ev l x = some (.slice (some ⟨g, 0, none⟩) k k)) (hp : Pick (own e 1 (some ⟨g, 0, none⟩) k k cs) L L') (ht : P.underlying t = some (.slice e)) (he : P.underlying e = some (.int .u8)) (hd : Nat.blt d n = true)
    (h : SL P ops Q rest n ((d, .slice (some ⟨g, 0, none⟩) k k) :: l) (lit e g cs :: L')) : SL P ops Q (⟨some d, .convert t t x, ty, pos, after, none⟩ :: rest) n l L := sl_of fun w hw => by
  have h2 := hw.pick hp
  have hO : w.ownsRow 0 e 1 (.slice (some ⟨g, 0, none⟩) k k) k cs := by
    have := h2.hd
    unfold own at this
    exact this
  obtain ⟨cur, hB, _, _, hcs, htk, hxl⟩ := own_open hO
  rw [Nat.mul_one] at hcs htk hxl
  have hcur : cur = cs.toArray := by
    apply Array.ext'
    rw [List.toList_toArray, ← htk, List.take_of_length_le (by simp [hcs])]
  subst hcur
  unfold Blk at hB
  have hg : g < w.heap.size := (Array.getElem?_eq_some_iff.1 hB).1
  have hsh : w.shape? g = some (e, cs.length) := by
    unfold World.shape?
    rw [hB]
    simp
  refine wl_run (v := .slice (some ⟨g, 0, none⟩) k k) (w' := w.freeze ⟨g, cs.length, none⟩ 1) ?_ hd (h.to ?_)
  · unfold Ru
    intro a _ _ _ _ hs
    simp only [execOp, hs.ev hx]
    simp [convert, run_underlying ht, run_underlying he, markStringish, hsh]
  · refine h2.step (S := fun j => j = g) ⟨rfl, rfl, rfl, ?_, fun j hj hn => ?_⟩ (fun j _ e => by rw [own_F]; exact congrArg some e.symm) ?_ (fun j hj => .inl (by rw [lit_F] at hj; rw [own_F]; exact congrArg some hj.symm))
    · simp [World.freeze]
    · have : g ≠ j := fun e => hn e.symm
      simp [World.freeze, Array.getElem?_modify, this]
    · rw [lit_P]
      unfold LitP World.freeze
      simp [Array.getElem?_modify, hB]
end
end Go.Proofs.Ytemhhhikopemmaa
/- The fixed fact of chapter 16; a nil disk. -/
namespace Go.Proofs.Ytemhhhikopemmaa
open Go.RowKit Go.MapKept
attribute [local irreducible] Go.Calls Go.Exit.then Go.Exit.inBlock Go.bodyPost Go.Code.wp Go.wpList
def sa : ByteArray := ⟨#[97]⟩
theorem dhas_nil {s : ByteArray} : ¬ DHas [] s := fun ⟨_, h, _⟩ => by cases h
theorem nth_Dka {φ : Prop} (h : φ := by (first | rfl | assumption)) : φ := h
theorem mid_Dka {φ : Prop} (h : φ := by (first | exact Mid.all | exact Mid.all | exact Mid.head)) : φ := h
theorem sz_Dka {φ : Prop} (h : φ := by (first | rfl | (rfl; first | done | fail))) : φ := h
theorem one_Dka {φ : Prop} (h : φ := by (first | assumption | exact first | exact one_bytes _ | exact ff_one | (simp only [List.mem_cons, List.not_mem_nil, or_false, forall_eq_or_imp, forall_eq]; decide) | exact one_bytes _)) : φ := h
theorem set_Dka {φ : Prop} (h : φ := by (first | (fail) | ((repeat (first | exact SetAt.here | apply SetAt.there)); first | done | fail))) : φ := h
theorem cl_Dka {φ : Prop} (h : φ := by first | rfl | exact .t | exact .f | exact .t (by omega) | exact .f (by omega) | exact .u | exact .i (by (first | exact .t (by omega) | exact .f (by omega) | exact .u | exact .i (by omega) | exact .v (by omega) | exact .b (by omega) | exact .w | rfl | omega)) | exact .v (by omega) | exact .b (by omega) | exact .q (by omega) | exact .w | exact .b (by exact at_) rfl (by exact nth_Dka) | exact .w (by exact at_) rfl rfl (by exact sz_Dka) | exact .s (by exact at_) (by exact mid_Dka) rfl rfl (by exact sz_Dka) | exact .z rfl rfl ⟨by kernel_rfl⟩ | exact .b rfl rfl ⟨by kernel_rfl⟩ | exact .a rfl rfl ⟨by kernel_rfl⟩ | exact .o rfl | exact .s | exact .n | exact .p rfl | exact .q rfl | exact .c rfl | exact .d rfl | exact .n rfl rfl (by omega) | exact .a rfl rfl (by omega) | exact .p rfl rfl (by omega) (by omega) | exact .y rfl rfl (by omega) (by omega) | exact .o (by exact at_) (by omega) rfl (by exact nth_Dka) | exact .m (by exact at_) (by omega) (by exact mid_Dka) rfl rfl (by exact sz_Dka) | exact .mlen (by exact at_) rfl | exact .t (by exact at_) rfl rfl (by first | exact True.intro | rfl) (by assumption) | exact .f (by exact at_) rfl rfl (by first | exact True.intro | rfl) (by assumption) rfl | exact .t1 (by exact at_) rfl rfl (by first | exact True.intro | rfl) (by assumption) | exact .f1 (by exact at_) rfl rfl (by first | exact True.intro | rfl) (by assumption) rfl | exact .r rfl rfl (by omega) (by omega) (by exact nth_Dka) rfl | exact .s rfl (by omega) (by assumption) | exact at_ | assumption | exact .r rfl rfl | exact .h rfl rfl rfl (by omega) | exact .l rfl rfl rfl (by omega) (by omega) | exact .g rfl rfl rfl rfl (by omega) (by omega) | exact .h rfl rfl (toN_ (by omega)) (by omega) | exact .l rfl rfl (toN_ (by omega)) (by omega) (by omega) | exact .g rfl rfl (toN_ (by omega)) (toN_ (by omega)) (by omega) (by omega) | exact .o (by decide) | exact .f (by decide) | exact .n (by omega) (by first | decide | (show _ ≤ ((64 : Nat) : Int); omega)) | (constructor; (repeat (first | exact .t (by omega) | exact .f (by omega) | exact .u | exact .i (by omega) | exact .v (by omega) | exact .b (by omega) | exact .w | rfl | omega)); first | done | fail) | omega | (show _ ≤ ((64 : Nat) : Int); omega)) : φ := h
theorem pv_Dka {φ : Prop} (h : φ := by constructor; (repeat exact cl_Dka); first | done | fail) : φ := h
theorem su_Dka {φ ψ : Prop} (k : ψ) (h : Hide ψ → φ := by (intro k; (first | refine sl_pu (PuI.sep (by exact pv_Dka)) rfl ?_ | refine sl_yes rfl rfl ?_ | refine sl_no rfl rfl rfl ?_ | refine sl_off rfl rfl rfl ?_ | (fail)); exact k.out)) : φ := h ⟨k⟩
theorem rq_Dka {φ ψ : Prop} (k : ψ) (h : Hide ψ → φ := by (intro k; (first | refine wq_pu (PuI.sep (by exact pv_Dka)) rfl ?_ | refine wq_yes rfl rfl ?_ | refine wq_no rfl rfl rfl ?_ | refine wq_off rfl rfl rfl ?_ | (fail)); exact k.out)) : φ := h ⟨k⟩
theorem sto_Dka {φ ψ : Prop} (k : ψ) (h : Hide ψ → φ := by (intro k; (first | refine sl_store rfl (by exact pick_) rfl rfl (by kernel_rfl) (by exact set_Dka) ?_ | refine sl_store_whole rfl (by exact pick_) rfl (by exact sz_Dka) (by exact sz_Dka) (by exact one_Dka) ?_); exact k.out)) : φ := h ⟨k⟩
theorem go_Dka {φ ψ : Prop} (k : ψ) (h : Hide ψ → φ := by (intro k; (repeat (first | refine su_Dka ?_ | refine so_ ?_ | refine sto_Dka ?_)); exact k.out)) : φ := h ⟨k⟩
set_option maxRecDepth 100000 in
set_option maxHeartbeats 2000000 in
theorem awake16 {K : List Fa} :
    Fn Try.prog 27 #[] K (Ret (fun _ : Unit => True) (fun _ => .bool true) (fun _ => K)) := by
  refine fn_enter Try.func27 rfl _ Try.ntmps27 (by simp) [] (args_of (by simp)) ?_
  refine go_Dka ?_
  refine sl_call rfl rfl (by kernel_rfl) rfl Sub.refl newD_ok ?_
  rintro ⟨g, m⟩ -
  dsimp only
  rw [show limL 100 = 100 by rfl]
  refine go_Dka ?_
  refine sl_build (size := 1) (e := 5) (cells := bytes [120, 121]) rfl (fun W => by kernel_rfl) rfl (by decide) rfl ?_
  intro g1
  refine go_Dka ?_
  refine sl_mark rfl (by exact pick_) rfl rfl rfl ?_
  refine go_Dka ?_
  have hc := appD_new (s := sa) (b := [120, 121]) (cb := 2) (fs := []) (g := g) (m := m) (ck := 0) (lim := 100) (K := lit 5 g1 (bytes [120, 121]) :: K) (by decide) (by decide) dhas_nil (by decide) (by decide) (by decide) (lit_vw (by exact at_))
  refine sl_call rfl rfl (by kernel_rfl) rfl (by exact sub_) hc ?_
  clear hc
  rintro ⟨A1, c1⟩ -
  refine go_Dka ?_
  refine sl_call rfl rfl (by kernel_rfl) rfl Sub.refl (syncD_ok (X := []) (Y := []) (f := ⟨sa, A1, c1, [120, 121], 0, 0⟩) (g := g) (m := m) (ck := 1) (lim := 100)) ?_
  rintro _ -
  rw [← ds_sy (X := []) (Y := []) (k := 2)]
  refine go_Dka ?_
  refine sl_build (size := 1) (e := 5) (cells := bytes [122, 122]) rfl (fun W => by kernel_rfl) rfl (by decide) rfl ?_
  intro g2
  refine go_Dka ?_
  refine sl_mark rfl (by exact pick_) rfl rfl rfl ?_
  refine go_Dka ?_
  have hc := appD_yes (X := []) (Y := []) (f := ⟨sa, A1, c1, [120, 121], 2, 0⟩) (b := [122, 122]) (cb := 2) (g := g) (m := m) (ck := 1) (lim := 100) (K := lit 5 g2 (bytes [122, 122]) :: K) (show sa.size ≤ _ by decide) (show nameB sa = true by decide) (by decide) (by simp [usedN]) (lit_vw (by exact at_))
  refine sl_call rfl rfl (by kernel_rfl) rfl (by exact sub_) hc ?_
  clear hc
  rintro ⟨A2, c2⟩ -
  refine go_Dka ?_
  refine sl_call rfl rfl (by kernel_rfl) rfl Sub.refl (crashD_ok (fs := [⟨sa, A2, c2, [120, 121, 122, 122], 2, 0⟩]) (g := g) (m := m) (ck := 1) (lim := 100) (keep := 1) (by simp) (by intro f hf; rw [List.mem_singleton] at hf; subst hf; simp)) ?_
  rintro fs hfs
  obtain ⟨f, rest, rfl, hf, hr⟩ := List.map_eq_cons_iff.1 hfs
  obtain rfl : rest = [] := List.map_eq_nil_iff.1 hr
  have h1 : f.s = sa := congrArg Fi.s hf
  have h2 : f.l = [120, 121, 122] := congrArg Fi.l hf
  have hrd := readD_ok (K := dB g m 100 :: dM m [f] 1 :: dS [f] :: lit 5 g2 (bytes [122, 122]) :: K) (g := g) (m := m) (ck := 1) (lim := 100) (fs := [f]) (f := f) (by exact at_) (by exact at_) (by exact at_) (List.mem_singleton.2 rfl) (by rw [h2]; decide)
  rw [h1, h2] at hrd
  refine go_Dka ?_
  refine sl_call rfl rfl (by kernel_rfl) rfl (by exact sub_) hrd ?_
  rintro ⟨A3, c3⟩ -
  refine go_Dka ?_
  refine sl_pu (pu_strv (Vw.of_own (c := c3) (e := 5) (by exact at_)) rfl rfl rfl rfl) rfl ?_
  refine go_Dka ?_
  exact se_ret1 () trivial rfl rfl (by exact sub_)
set_option maxRecDepth 100000 in
set_option maxHeartbeats 2000000 in
theorem lawNone_ok {K : List Fa} {s : ByteArray} {A : Option Addr} {n c : Nat} {k : Int} (hn : n ≤ 9223372036854775807) :
    Fn Try.prog 9 #[.string s, .slice A n c, .int .i64 k] K (Ret (fun _ : Unit => True) (fun _ => .bool true) (fun _ => K)) := by
  refine fn_enter Try.func9 rfl _ Try.ntmps9 (by simp) [(0, .string s), (1, .slice A n c), (2, .int .i64 k)] (args_of (by simp)) ?_
  refine go_Dka ?_
  refine sl_call rfl rfl (by kernel_rfl) rfl Sub.refl awake16 ?_
  rintro _ -
  by_cases h100 : 100 < n
  · refine go_Dka ?_
    exact se_ret1 () trivial rfl rfl (by exact sub_)
  refine go_Dka ?_
  refine sl_call rfl rfl (by kernel_rfl) rfl Sub.refl nilCrash ?_
  rintro _ -
  refine go_Dka ?_
  refine sl_call rfl rfl (by kernel_rfl) rfl Sub.refl nilRead ?_
  rintro _ -
  refine go_Dka ?_
  refine sl_call rfl rfl (by kernel_rfl) rfl Sub.refl nilAppend ?_
  rintro _ -
  refine go_Dka ?_
  refine sl_call rfl rfl (by kernel_rfl) rfl Sub.refl nilSync ?_
  rintro _ -
  refine go_Dka ?_
  refine sl_call rfl rfl (by kernel_rfl) rfl Sub.refl nilCut ?_
  rintro _ -
  refine go_Dka ?_
  refine sl_call rfl rfl (by kernel_rfl) rfl Sub.refl nilTurn ?_
  rintro _ -
  refine go_Dka ?_
  refine sl_call rfl rfl (by kernel_rfl) rfl Sub.refl nilLoose ?_
  rintro _ -
  refine go_Dka ?_
  refine sl_call rfl rfl (by kernel_rfl) rfl Sub.refl nilUsed ?_
  rintro _ -
  refine go_Dka ?_
  refine sl_call rfl rfl (by kernel_rfl) rfl Sub.refl nilNames ?_
  rintro _ -
  refine go_Dka ?_
  refine sl_call rfl rfl (by kernel_rfl) rfl Sub.refl nilCopy ?_
  rintro _ -
  refine go_Dka ?_
  exact se_ret1 () trivial rfl rfl (by exact sub_)
end Go.Proofs.Ytemhhhikopemmaa
/- A disk: Turn. -/
namespace Go.Proofs.Ytemhhhikopemmaa
open Go.RowKit Go.MapKept
attribute [local irreducible] Go.Calls Go.Exit.then Go.Exit.inBlock Go.bodyPost Go.Code.wp Go.wpList
/-- A byte with a bit turned. -/
def tbit (x : Int) (k : Nat) : Int := bits .xor .u8 x (IntKind.u8.wrap (1 * 2 ^ (k % 8)))
def turnL (l : List Int) (k : Nat) : List Int := l.set (k / 8) (tbit (l.getD (k / 8) 0) k)
theorem turnL_len {l : List Int} {k : Nat} : (turnL l k).length = l.length := by simp [turnL]
theorem dval_len {s : ByteArray} {A : Option Addr} {c n sy bn : Nat} {l : List Int} (h : l.length = n) : Value.agg #[.slice A n c, .int .i64 sy] = DF.val ⟨s, A, c, l, sy, bn⟩ := by
  subst h
  rfl
theorem nth_Dkt {φ : Prop} (h : φ := by (first | rfl | assumption)) : φ := h
theorem mid_Dkt {φ : Prop} (h : φ := by (first | exact Mid.all | exact Mid.all | exact Mid.head)) : φ := h
theorem sz_Dkt {φ : Prop} (h : φ := by (first | rfl | (rfl; first | done | fail))) : φ := h
theorem one_Dkt {φ : Prop} (h : φ := by (first | assumption | exact first | exact one_bytes _ | exact ff_one | (simp only [List.mem_cons, List.not_mem_nil, or_false, forall_eq_or_imp, forall_eq]; decide) | exact one_bytes _)) : φ := h
theorem set_Dkt {φ : Prop} (h : φ := by (first | (fail) | ((repeat (first | exact SetAt.here | apply SetAt.there)); first | done | fail))) : φ := h
theorem cl_Dkt {φ : Prop} (h : φ := by first | rfl | exact .t | exact .f | exact .t (by omega) | exact .f (by omega) | exact .u | exact .i (by (first | exact .t (by omega) | exact .f (by omega) | exact .u | exact .i (by omega) | exact .v (by omega) | exact .b (by omega) | exact .w | rfl | omega)) | exact .v (by omega) | exact .b (by omega) | exact .q (by omega) | exact .w | exact .b (by exact at_) rfl (by exact nth_Dkt) | exact .w (by exact at_) rfl rfl (by exact sz_Dkt) | exact .s (by exact at_) (by exact mid_Dkt) rfl rfl (by exact sz_Dkt) | exact .z rfl rfl ⟨by kernel_rfl⟩ | exact .b rfl rfl ⟨by kernel_rfl⟩ | exact .a rfl rfl ⟨by kernel_rfl⟩ | exact .o rfl | exact .s | exact .n | exact .p rfl | exact .q rfl | exact .c rfl | exact .d rfl | exact .n rfl rfl (by omega) | exact .a rfl rfl (by omega) | exact .p rfl rfl (by omega) (by omega) | exact .y rfl rfl (by omega) (by omega) | exact .o (by exact at_) (by omega) rfl (by exact nth_Dkt) | exact .m (by exact at_) (by omega) (by exact mid_Dkt) rfl rfl (by exact sz_Dkt) | exact .mlen (by exact at_) rfl | exact .t (by exact at_) rfl rfl (by first | exact True.intro | rfl) (by assumption) | exact .f (by exact at_) rfl rfl (by first | exact True.intro | rfl) (by assumption) rfl | exact .t1 (by exact at_) rfl rfl (by first | exact True.intro | rfl) (by assumption) | exact .f1 (by exact at_) rfl rfl (by first | exact True.intro | rfl) (by assumption) rfl | exact .r rfl rfl (by omega) (by omega) (by exact nth_Dkt) rfl | exact .s rfl (by omega) (by assumption) | exact at_ | assumption | exact .r rfl rfl | exact .h rfl rfl rfl (by omega) | exact .l rfl rfl rfl (by omega) (by omega) | exact .g rfl rfl rfl rfl (by omega) (by omega) | exact .h rfl rfl (toN_ (by omega)) (by omega) | exact .l rfl rfl (toN_ (by omega)) (by omega) (by omega) | exact .g rfl rfl (toN_ (by omega)) (toN_ (by omega)) (by omega) (by omega) | exact .o (by decide) | exact .f (by decide) | exact .n (by omega) (by first | decide | (show _ ≤ ((64 : Nat) : Int); omega)) | (constructor; (repeat (first | exact .t (by omega) | exact .f (by omega) | exact .u | exact .i (by omega) | exact .v (by omega) | exact .b (by omega) | exact .w | rfl | omega)); first | done | fail) | omega | (show _ ≤ ((64 : Nat) : Int); omega)) : φ := h
theorem pv_Dkt {φ : Prop} (h : φ := by constructor; (repeat exact cl_Dkt); first | done | fail) : φ := h
theorem su_Dkt {φ ψ : Prop} (k : ψ) (h : Hide ψ → φ := by (intro k; (first | refine sl_pu (PuI.sep (by exact pv_Dkt)) rfl ?_ | refine sl_yes rfl rfl ?_ | refine sl_no rfl rfl rfl ?_ | refine sl_off rfl rfl rfl ?_ | (fail)); exact k.out)) : φ := h ⟨k⟩
theorem rq_Dkt {φ ψ : Prop} (k : ψ) (h : Hide ψ → φ := by (intro k; (first | refine wq_pu (PuI.sep (by exact pv_Dkt)) rfl ?_ | refine wq_yes rfl rfl ?_ | refine wq_no rfl rfl rfl ?_ | refine wq_off rfl rfl rfl ?_ | (fail)); exact k.out)) : φ := h ⟨k⟩
theorem sto_Dkt {φ ψ : Prop} (k : ψ) (h : Hide ψ → φ := by (intro k; (first | refine sl_store rfl (by exact pick_) rfl rfl (by kernel_rfl) (by exact set_Dkt) ?_ | refine sl_store_whole rfl (by exact pick_) rfl (by exact sz_Dkt) (by exact sz_Dkt) (by exact one_Dkt) ?_); exact k.out)) : φ := h ⟨k⟩
theorem go_Dkt {φ ψ : Prop} (k : ψ) (h : Hide ψ → φ := by (intro k; (repeat (first | refine su_Dkt ?_ | refine so_ ?_ | refine sto_Dkt ?_)); exact k.out)) : φ := h ⟨k⟩
set_option maxRecDepth 100000 in
set_option maxHeartbeats 2000000 in
theorem turnD_range {K : List Fa} {g m ck : Nat} {lim k : Int} {fs : List DF} {f : DF} (hB : At (dB g m lim) K) (hM : At (dM m fs ck) K) (hf : f ∈ fs) (hk : k < 0 ∨ 8 * (f.l.length : Int) ≤ k) (hn : f.l.length ≤ 1048576) :
    Fn Try.prog 21 #[.pointer (some ⟨g, 0, none⟩), .string f.s, .int .i64 k] K (Ret (fun _ : Unit => True) (fun _ => .int .i64 6) (fun _ => K)) := by
  refine fn_enter Try.func21 rfl _ Try.ntmps21 (by simp) [(0, .pointer (some ⟨g, 0, none⟩)), (1, .string f.s), (2, .int .i64 k)] (args_of (by simp)) ?_
  have hg := dget hf
  unfold DF.val at hg
  refine go_Dkt ?_
  refine sl_call rfl rfl (by kernel_rfl) rfl Sub.refl (has_yes hB hM hf) ?_
  rintro _ -
  refine go_Dkt ?_
  refine sl_alloc rfl rfl rfl ?_; intro g7
  rcases (show k < 0 ∨ 0 ≤ k by omega) with h0 | h0
  · refine go_Dkt ?_
    exact se_ret1 () trivial rfl rfl (by exact sub_)
  · have h1 : 8 * (f.l.length : Int) ≤ k := by omega
    refine go_Dkt ?_
    exact se_ret1 () trivial rfl rfl (by exact sub_)
set_option maxRecDepth 100000 in
set_option maxHeartbeats 2000000 in
theorem turnD_ok {K : List Fa} {g m ck k : Nat} {lim : Int} {X Y : List DF} {f : DF} (hk : k < 8 * f.l.length) (hn : f.l.length ≤ 1048576) :
    Fn Try.prog 21 #[.pointer (some ⟨g, 0, none⟩), .string f.s, .int .i64 k] (dB g m lim :: dM m (X ++ f :: Y) ck :: dS (X ++ f :: Y) :: K) (Ret (fun _ : Option Addr × Nat => True) (fun _ => .int .i64 0) (fun q => dB g m lim :: dM m (X ++ ⟨f.s, q.1, q.2, turnL f.l k, f.sy, f.bn⟩ :: Y) ck :: dS (X ++ ⟨f.s, q.1, q.2, turnL f.l k, f.sy, f.bn⟩ :: Y) :: K)) := by
  refine fn_enter Try.func21 rfl _ Try.ntmps21 (by simp) [(0, .pointer (some ⟨g, 0, none⟩)), (1, .string f.s), (2, .int .i64 k)] (args_of (by simp)) ?_
  have hg := dget (mid_mem (X := X) (Y := Y) (f := f))
  unfold DF.val at hg
  refine go_Dkt ?_
  refine sl_call rfl rfl (by kernel_rfl) rfl Sub.refl (has_yes (by exact at_) (by exact at_) mid_mem) ?_
  rintro _ -
  refine go_Dkt ?_
  refine sl_alloc rfl rfl rfl ?_; intro g7
  refine go_Dkt ?_
  refine sl_call rfl rfl (by kernel_rfl) rfl Sub.refl (clone_ok (ds_get (fs := X ++ f :: Y) (f := f) (by exact at_) mid_mem) (by omega)) ?_
  rintro ⟨A1, c1⟩ -
  dsimp only
  refine sl_form (e := 5) (size := 1) (A := A1) (m := f.l.length) (by exact at_) (by omega) ?_
  rintro ga rfl
  have hnx : nth (bytes f.l) (((k : Int) / 8).toNat * 1) = some (.int .u8 (f.l.getD (k / 8) 0)) := by
    rw [nth_eq, Nat.mul_one, show ((k : Int) / 8).toNat = k / 8 by omega]
    simp [bytes, List.getD, show k / 8 < f.l.length by omega]
  refine go_Dkt ?_
  refine sd_drawn (fun W => AllP W [blk g7 88 [.slice (some ⟨ga, 0, none⟩) f.l.length c1, .int .i64 f.sy], own 5 1 (some ⟨ga, 0, none⟩) f.l.length c1 (bytes f.l)]) (fun i => !(List.contains [11] i)) (by kernel_rfl) 12 rfl ?_
  refine sd_yes2 0 rfl (by exact gd_) (by kernel_rfl) (by kernel_rfl) (by exact nop_) (PuI.all (by exact pv_Dkt)) rfl (fun w hw => all_ hw) ?_
  refine sd_yes2 1 rfl (by exact gd_) (by kernel_rfl) (by kernel_rfl) (by exact nop_) (PuI.all (by exact pv_Dkt)) rfl (fun w hw => all_ hw) ?_
  refine sd_yes2 2 rfl (by exact gd_) (by kernel_rfl) (by kernel_rfl) (by exact nop_) (PuI.all (by exact pv_Dkt)) rfl (fun w hw => all_ hw) ?_
  refine sd_yes2 3 rfl (by exact gd_) (by kernel_rfl) (by kernel_rfl) (by exact nop_) (PuI.all (by exact pv_Dkt)) rfl (fun w hw => all_ hw) ?_
  refine sd_yes2 4 rfl (by exact gd_) (by kernel_rfl) (by kernel_rfl) (by exact nop_) (PuI.all (by exact pv_Dkt)) rfl (fun w hw => all_ hw) ?_
  refine sd_yes2 5 rfl (by exact gd_) (by kernel_rfl) (by kernel_rfl) (by exact nop_) (PuI.all (by exact pv_Dkt)) rfl (fun w hw => all_ hw) ?_
  refine sd_yes2 6 rfl (by exact gd_) (by kernel_rfl) (by kernel_rfl) (by exact nop_) (PuI.all (by exact pv_Dkt)) rfl (fun w hw => all_ hw) ?_
  refine sd_yes2 7 rfl (by exact gd_) (by kernel_rfl) (by kernel_rfl) (by exact nop_) (PuI.all (by exact pv_Dkt)) rfl (fun w hw => all_ hw) ?_
  refine sd_yes2 8 rfl (by exact gd_) (by kernel_rfl) (by kernel_rfl) (by exact nop_) (pu_shl rfl rfl (by omega) (by show _ ≤ ((8 : Nat) : Int); omega)) rfl (fun w hw => all_ hw) ?_
  refine sd_yes2 9 rfl (by exact gd_) (by kernel_rfl) (by kernel_rfl) (by exact nop_) (pu_xor rfl rfl) rfl (fun w hw => all_ hw) ?_
  refine sd_yes2 10 rfl (by exact gd_) (by kernel_rfl) (by kernel_rfl) (by exact nop_) (PuI.all (by exact pv_Dkt)) rfl (fun w hw => all_ hw) ?_
  refine sd_one 11 (by kernel_rfl) (sa_sl 11 rfl ?_)
  rw [add_none, show 0 + ((k : Int) / 8).toNat * 1 = k / 8 by omega, show ((k : Int) % 8).toNat = k % 8 by omega]
  refine sl_sto (e := 5) (size := 1) (k := f.l.length) (c := c1) (xs := bytes f.l) rfl (by exact pick_) rfl rfl rfl (by omega) ?_
  rw [bytes_set]
  refine sl_nil ?_
  refine se_sd (fun h => absurd h (by decide)) ?_
  refine sd_done (by kernel_rfl) ?_
  rw [show f.l.set (k / 8) (bits .xor .u8 (f.l.getD (k / 8) 0) (IntKind.u8.wrap (1 * 2 ^ (k % 8)))) = turnL f.l k from rfl]
  refine go_Dkt ?_
  refine sd_drawn (fun W => AllP W [blk g7 88 [.slice (some ⟨ga, 0, none⟩) f.l.length c1, .int .i64 f.sy], dB g m lim]) (fun _ => true) (by kernel_rfl) 7 rfl ?_
  refine sd_yes2 0 rfl (by exact gd_) (by kernel_rfl) (by kernel_rfl) (by exact nop_) (PuI.all (by exact pv_Dkt)) rfl (fun w hw => all_ hw) ?_
  refine sd_yes2 1 rfl (by exact gd_) (by kernel_rfl) (by kernel_rfl) (by exact nop_) (PuI.all (by exact pv_Dkt)) rfl (fun w hw => all_ hw) ?_
  refine sd_yes2 2 rfl (by exact gd_) (by kernel_rfl) (by kernel_rfl) (by exact nop_) (PuI.all (by exact pv_Dkt)) rfl (fun w hw => all_ hw) ?_
  refine sd_yes2 3 rfl (by exact gd_) (by kernel_rfl) (by kernel_rfl) (by exact nop_) (PuI.all (by exact pv_Dkt)) rfl (fun w hw => all_ hw) ?_
  refine sd_yes2 4 rfl (by exact gd_) (by kernel_rfl) (by kernel_rfl) (by exact nop_) (PuI.all (by exact pv_Dkt)) rfl (fun w hw => all_ hw) ?_
  refine sd_yes2 5 rfl (by exact gd_) (by kernel_rfl) (by kernel_rfl) (by exact nop_) (PuI.all (by exact pv_Dkt)) rfl (fun w hw => all_ hw) ?_
  refine sd_one 6 (by kernel_rfl) (sa_sl 6 rfl ?_)
  refine sl_dput (f := f) (f' := ⟨f.s, some ⟨ga, 0, none⟩, c1, turnL f.l k, f.sy, f.bn⟩) rfl rfl (congrArg some (dval_len turnL_len)) rfl rfl (by exact pick_) rfl rfl ?_
  refine sl_nil ?_
  refine se_sd (fun _ w hw => all_ hw) ?_
  refine sd_done (by kernel_rfl) ?_
  refine go_Dkt ?_
  refine se_sub (L' := own 5 1 (some ⟨ga, 0, none⟩) f.l.length c1 (bytes (turnL f.l k)) :: dS (X ++ f :: Y) :: dB g m lim :: dM m (X ++ ⟨f.s, some ⟨ga, 0, none⟩, c1, turnL f.l k, f.sy, f.bn⟩ :: Y) ck :: K) (by exact sub_) ?_
  refine se_ent (ds_put (s := f.s) (sy := f.sy) (bn := f.bn) turnL_len) ?_
  exact se_ret1 (some ⟨ga, 0, none⟩, c1) trivial rfl rfl (by exact sub_)
end Go.Proofs.Ytemhhhikopemmaa
/- Strings of bytes. No program is in sight. -/
namespace Go.Proofs.Ytemhhhikopemmaa
open Go.RowKit
theorem nums_back {p : List Int} (h : IsBytes p) : (p.map fun n => UInt8.ofNat n.toNat).map (fun u => (u.toNat : Int)) = p := by
  rw [List.map_map]
  conv => rhs; rw [← List.map_id p]
  refine List.map_congr_left fun x hx => ?_
  obtain ⟨h1, h2⟩ := h x hx
  simp [UInt8.toNat_ofNat']
  omega
theorem strOfNums_inj {p q : List Int} (hp : IsBytes p) (hq : IsBytes q) (h : strOfNums p = strOfNums q) : p = q := by
  have h1 : (strOfNums p).data.toList = (strOfNums q).data.toList := by rw [h]
  rw [strOfNums_data, strOfNums_data] at h1
  rw [← nums_back hp, ← nums_back hq, h1]
theorem str_toList (p : List Int) : (strOfNums p).toList = p.map fun n => UInt8.ofNat n.toNat := by
  rw [Lib.strOfNums_toList]
  rfl
theorem strs_dec {p q : List Int} (hp : IsBytes p) (hq : IsBytes q) : ((strOfNums p).toList == (strOfNums q).toList) = decide (p = q) := by
  rw [Bool.eq_iff_iff, beq_iff_eq, decide_eq_true_eq, str_toList, str_toList]
  constructor
  · intro h
    rw [← nums_back hp, ← nums_back hq, h]
  · intro h
    rw [h]
theorem pu_neqlb {P : Program} {C : World → Prop} {n : Nat} {l : Env} {ty t t' e : TypeId} {x y : Operand} {xs ys : List Int} {N : Nat} (hx : ev l x = some (.agg (bytes xs).toArray)) (hy : ev l y = some (.agg (bytes ys).toArray)) (ht : P.underlying t = some (.array N e)) (he : P.underlying e = some (.int .u8)) (hz : szOf P e = some 1) (hg : P.eqGuardType P.depth t = false)
    (hxl : xs.length = N) (hyl : ys.length = N) (hxb : IsBytes xs) (hyb : IsBytes ys) : Pu P C n l (.binOp .neq t x y t') ty (.bool (!decide (xs = ys))) := by
  unfold Pu
  intro a _ _ _ _ W hs _
  simp only [execOp, hs.ev hx, hs.ev hy]
  rw [u8s_cell hxb, u8s_cell hyb, Sem.run_bind, Sem.run_bind, run_eqGuard_agg (P := P) W _ t x y _ _ hg, Result.andThen_ok, run_neq_struct, run_equalIn_bytes W 9998 t e N ht he (run_size hz) _ _ (by simp [u8s, hxl]) (by simp [u8s, hyl]), u8s_eq hxb hyb]
  rfl
end Go.Proofs.Ytemhhhikopemmaa
/- Bytes that came in. -/
namespace Go.Proofs.Ytemhhhikopemmaa
open Go.RowKit Go.ChangeShapes Go.WideShapes
def RawV (w : World) (v : Value) : Prop := ∃ (A : Option Addr) (c : Nat) (l : List Int), v = .slice A l.length c ∧ Reads w 1 A l.length (bytes l) ∧ IsBytes l ∧ l.length ≤ c ∧ c ≤ maxLen
theorem open_raw {H : Type} {enc : TypeId × Value → H} {w : World} {base : Nat} {spare : Nat → Bool} {held : Bool} {fuel : Nat} {x : DataW H × List MemPlace} {v : Value} (h : DataW.trod enc Try.prog w base spare held fuel 23 v.cells.toList = some x) (hv : ∃ A n c, v = .slice A n c) : RawV w v := by
  obtain ⟨A0, n0, c0, rfl⟩ := hv
  obtain ⟨v, bs, hcs, A, n, c, rfl, hr, hb, hc, hm⟩ := open_bytes Try.underlying23 Try.underlying5 (by kernel_rfl) h
  have hl : bs.length = n := by have := hr.1; simpa [bytes] using this
  subst hl
  exact ⟨A, c, bs, by simpa [Value.cells] using hcs, hr, hb, hc, hm⟩
end Go.Proofs.Ytemhhhikopemmaa
/- A function's walk in parts: a piece of its code, what comes behind it left open. No program is in sight. -/
namespace Go.Proofs.Ytemhhhikopemmaa
open Go.RowKit
/-- A function's code. -/
def fb (f : Func) : Code := match f.body with
  | some c => c
  | none => .skip
/-- A piece of a code: true is the first of two, or the only one. -/
def cAt : List Bool → Code → Code
  | [], c => c
  | true :: r, .seq a _ => cAt r a
  | false :: r, .seq _ b => cAt r b
  | true :: r, .cond _ a _ => cAt r a
  | false :: r, .cond _ _ b => cAt r b
  | _ :: r, .block _ a => cAt r a
  | _ :: r, .loop a => cAt r a
  | _ :: r, .scope a => cAt r a
  | _, c => c
section
variable {P : Program} {Q : Exit → Act → World → Prop} {n : Nat} {l : Env} {L : List Fa} {x y : Code} {α : Type} {E : α → Env} {H : α → List Fa} {R : α → Prop} {id : Nat}
theorem se_mono {l l' : Env} {L L' : List Fa} {e : Exit} (h : SE Q e n l' L') (hl : Has l l') (hs : Sub L L') : SE Q e n l L := se_of fun w hw => WE.mk fun a ha => (h.to (hw.sub hs)).get (ha.sub hl.sub)
/-- How a piece ends: one of the states that are told. -/
abbrev Ends (n : Nat) (Q : Exit → Act → World → Prop) (e : Exit) (E : α → Env) (H : α → List Fa) (R : α → Prop) : Prop := ∀ (p : α) {l : Env} {L : List Fa}, R p → Has l (E p) → Sub L (H p) → SE Q e n l L
/-- A piece within its block, and what stands behind the block. -/
theorem sc_bpart (hp : ∀ Q', NoP Q' → Ends n Q' .normal E H R → SC P x Q' n l L) (hN : NoP (Exit.inBlock id (Exit.then (fun a w => y.wp P Q a w) Q))) (hy : ∀ p, R p → SC P y Q n (E p) (H p)) : SC P x (Exit.inBlock id (Exit.then (fun a w => y.wp P Q a w) Q)) n l L :=
  hp _ hN fun p _ _ hR hl hs => se_mono (se_block (se_seq (hy p hR))) hl hs
/-- A piece that leaves its block, and what stands behind the block. -/
theorem sc_xpart (hp : ∀ Q', NoP Q' → Ends n Q' (.exit id) E H R → SC P x Q' n l L) (hN : NoP (Exit.inBlock id (Exit.then (fun a w => y.wp P Q a w) Q))) (hy : ∀ p, R p → SC P y Q n (E p) (H p)) : SC P x (Exit.inBlock id (Exit.then (fun a w => y.wp P Q a w) Q)) n l L :=
  hp _ hN fun p _ _ hR hl hs => se_mono (se_block_hit (se_seq (hy p hR))) hl hs
/-- A piece, and what stands behind it. -/
theorem sc_spart (hp : ∀ Q', NoP Q' → Ends n Q' .normal E H R → SC P x Q' n l L) (hN : NoP (Exit.then (fun a w => y.wp P Q a w) Q)) (hy : ∀ p, R p → SC P y Q n (E p) (H p)) : SC P x (Exit.then (fun a w => y.wp P Q a w) Q) n l L :=
  hp _ hN fun p _ _ hR hl hs => se_mono (se_seq (hy p hR)) hl hs
end
end Go.Proofs.Ytemhhhikopemmaa
