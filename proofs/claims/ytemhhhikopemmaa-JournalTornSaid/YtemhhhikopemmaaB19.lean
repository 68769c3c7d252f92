/- Several texts of one claim, one behind the other (Dk, Dk2, Dk5, Dk3). -/
import Derived.Test.YtemhhhikopemmaaB13
import Derived.Test.YtemhhhikopemmaaB10
import Derived.Test.YtemhhhikopemmaaB11
/- A disk in memory; its smallest functions. -/
namespace Go.Proofs.Ytemhhhikopemmaa
open Go.RowKit Go.MapKept
attribute [local irreducible] Go.Calls Go.Exit.then Go.Exit.inBlock Go.bodyPost Go.Code.wp Go.wpList
/-- A file on a disk: its name, where its bytes lie, its bytes, how many are synced; the number at which it came in. -/
structure DF where
  s : ByteArray
  A : Option Addr
  c : Nat
  l : List Int
  sy : Nat
  bn : Nat
def DF.val (f : DF) : Value := .agg #[.slice f.A f.l.length f.c, .int .i64 f.sy]
def DF.ent (f : DF) : MapEntry := ⟨.string f.s, f.val, f.bn⟩
abbrev DF.fa (f : DF) : Fa := u8o f.A f.c f.l
def DF.ok (f : DF) : Prop := f.sy ≤ f.l.length ∧ IsBytes f.l
abbrev dB (g m : Nat) (lim : Int) : Fa := blk g 86 [.map (some m), .int .i64 lim]
abbrev dM (m : Nat) (fs : List DF) (ck : Nat) : Fa := mp m .string (fs.map DF.ent) ck
abbrev dS (fs : List DF) : Fa := star (fs.map DF.fa)
def DHas (fs : List DF) (s : ByteArray) : Prop := ∃ f ∈ fs, f.s = s
theorem dget {fs : List DF} {f : DF} (h : f ∈ fs) : MGet (fs.map DF.ent) (.string f.s) f.val := ⟨f.ent, List.mem_map.2 ⟨f, h, rfl⟩, rfl, rfl⟩
theorem dno {fs : List DF} {s : ByteArray} (h : ¬ DHas fs s) : MNo (fs.map DF.ent) (.string s) := fun e he hk => by
  obtain ⟨f, hf, rfl⟩ := List.mem_map.1 he
  have hk' : Value.string f.s = .string s := hk
  injection hk' with hk'
  exact h ⟨f, hf, hk'⟩
def fz : List Value := [.slice none 0 0, .int .i64 0]
theorem star_get {f : Fa} {G L : List Fa} (h : At (star G) L) (hf : f ∈ G) : Vw L f.P := fun w hw => by
  have h1 := hw.at h
  unfold star at h1
  exact h1.mem hf
theorem star_pull {A B K : List Fa} {f : Fa} : Ent_ (star (A ++ f :: B) :: K) (f :: star (A ++ B) :: K) := fun w hw => by
  have h1 := star_out w hw
  rw [List.append_assoc, List.cons_append] at h1
  have h2 := (pick_mid A).out w h1
  rw [← List.append_assoc] at h2
  exact Ent_.tail star_in (fun k hk => by
    rcases foot_cons.1 hk with e | e
    · unfold star at e
      obtain ⟨y, hy, hk⟩ := e
      exact ⟨y, List.mem_append_left _ hy, hk⟩
    · obtain ⟨y, hy, hk⟩ := e
      exact ⟨y, List.mem_append_right _ hy, hk⟩) w h2
theorem star_push {A B K : List Fa} {f : Fa} : Ent_ (f :: star (A ++ B) :: K) (star (A ++ f :: B) :: K) := fun w hw => by
  refine star_in w ?_
  rw [List.append_assoc, List.cons_append]
  refine (pick_mid A).back w ?_
  rw [← List.append_assoc]
  exact Ent_.tail star_out (fun k hk => by
    obtain ⟨y, hy, hk⟩ := hk
    rcases List.mem_append.1 hy with e | e
    · exact foot_cons.2 (.inl (by unfold star; exact ⟨y, e, hk⟩))
    · exact foot_cons.2 (.inr ⟨y, e, hk⟩)) w hw
/-- What a name is made of. -/
def chB (c : UInt8) : Bool := (97 ≤ c && c ≤ 122) || (48 ≤ c && c ≤ 57) || c == 46 || c == 45
def nameB (s : ByteArray) : Bool := decide (1 ≤ s.size ∧ s.size ≤ 16) && s.data.toList.all chB
theorem str_at {s : ByteArray} {i : Nat} (h : i < s.size) : s[((i : Nat) : Int).toNat]? = some s[i] := by
  rw [Int.toNat_natCast]
  exact getElem?_pos s i h
set_option maxRecDepth 100000 in
theorem ch_cases (c : UInt8) : (c.toNat < 45 ∧ chB c = false) ∨ (c.toNat = 45 ∧ chB c = true) ∨ (c.toNat = 46 ∧ chB c = true) ∨ (c.toNat = 47 ∧ chB c = false) ∨ ((48 ≤ c.toNat ∧ c.toNat ≤ 57) ∧ chB c = true) ∨ ((58 ≤ c.toNat ∧ c.toNat ≤ 96) ∧ chB c = false) ∨ ((97 ≤ c.toNat ∧ c.toNat ≤ 122) ∧ chB c = true) ∨ (123 ≤ c.toNat ∧ chB c = false) := by
  have h : c.toNat < 256 := c.toNat_lt
  obtain ⟨n, hn⟩ : ∃ n, c.toNat = n := ⟨_, rfl⟩
  have hc : c = UInt8.ofNat n := by rw [← hn]; simp
  rw [hn] at h ⊢
  subst hc
  clear hn
  revert n
  decide
theorem all_snoc {s : ByteArray} {i : Nat} (h : i < s.size) : (s.data.toList.take (i + 1)).all chB = ((s.data.toList.take i).all chB && chB s[i]) := by
  rw [List.take_succ_eq_append_getElem (by simpa using h), List.all_append]
  simp
  rfl
theorem all_not {s : ByteArray} {i : Nat} (h : i < s.size) (hc : chB s[i] = false) : s.data.toList.all chB = false := by
  rw [Bool.eq_false_iff]
  intro ha
  rw [List.all_eq_true] at ha
  have := ha s[i] (by
    have : s[i] ∈ s.data := Array.getElem_mem _
    simpa using this)
  rw [hc] at this
  cases this
theorem nth_Dk {φ : Prop} (h : φ := by (first | rfl | rfl)) : φ := h
theorem mid_Dk {φ : Prop} (h : φ := by (first | exact Mid.all | exact Mid.all | exact Mid.head)) : φ := h
theorem sz_Dk {φ : Prop} (h : φ := by (first | rfl | (rfl; first | done | fail))) : φ := h
theorem one_Dk {φ : Prop} (h : φ := by (first | assumption | exact first | exact one_bytes _ | (simp only [List.mem_cons, List.not_mem_nil, or_false, forall_eq_or_imp, forall_eq]; decide) | exact one_bytes _)) : φ := h
theorem set_Dk {φ : Prop} (h : φ := by (first | (fail) | ((repeat (first | exact SetAt.here | apply SetAt.there)); first | done | fail))) : φ := h
theorem cl_Dk {φ : Prop} (h : φ := by first | rfl | exact .t | exact .f | exact .t (by omega) | exact .f (by omega) | exact .u | exact .i (by (first | exact .t (by omega) | exact .f (by omega) | exact .u | exact .i (by omega) | exact .v (by omega) | exact .b (by omega) | exact .w | rfl | omega)) | exact .v (by omega) | exact .b (by omega) | exact .q (by omega) | exact .w | exact .b (by exact at_) rfl (by exact nth_Dk) | exact .w (by exact at_) rfl rfl (by exact sz_Dk) | exact .s (by exact at_) (by exact mid_Dk) rfl rfl (by exact sz_Dk) | exact .z rfl rfl ⟨by kernel_rfl⟩ | exact .b rfl rfl ⟨by kernel_rfl⟩ | exact .a rfl rfl ⟨by kernel_rfl⟩ | exact .o rfl | exact .s | exact .n | exact .p rfl | exact .q rfl | exact .c rfl | exact .d rfl | exact .n rfl rfl (by omega) | exact .a rfl rfl (by omega) | exact .p rfl rfl (by omega) (by omega) | exact .y rfl rfl (by omega) (by omega) | exact .o (by exact at_) (by omega) rfl (by exact nth_Dk) | exact .m (by exact at_) (by omega) (by exact mid_Dk) rfl rfl (by exact sz_Dk) | exact .mlen (by exact at_) rfl | exact .t (by exact at_) rfl rfl (by first | exact True.intro | rfl) (by assumption) | exact .f (by exact at_) rfl rfl (by first | exact True.intro | rfl) (by assumption) rfl | exact .t1 (by exact at_) rfl rfl (by first | exact True.intro | rfl) (by assumption) | exact .f1 (by exact at_) rfl rfl (by first | exact True.intro | rfl) (by assumption) rfl | exact .r rfl rfl (by omega) (by omega) (by exact nth_Dk) rfl | exact .s rfl (by omega) (by assumption) | exact at_ | assumption | exact .r rfl rfl | exact .h rfl rfl rfl (by omega) | exact .l rfl rfl rfl (by omega) (by omega) | exact .g rfl rfl rfl rfl (by omega) (by omega) | exact .h rfl rfl (toN_ (by omega)) (by omega) | exact .l rfl rfl (toN_ (by omega)) (by omega) (by omega) | exact .g rfl rfl (toN_ (by omega)) (toN_ (by omega)) (by omega) (by omega) | exact .o (by decide) | exact .f (by decide) | exact .n (by omega) (by first | decide | (show _ ≤ ((64 : Nat) : Int); omega)) | (constructor; (repeat (first | exact .t (by omega) | exact .f (by omega) | exact .u | exact .i (by omega) | exact .v (by omega) | exact .b (by omega) | exact .w | rfl | omega)); first | done | fail) | omega | (show _ ≤ ((64 : Nat) : Int); omega)) : φ := h
theorem pv_Dk {φ : Prop} (h : φ := by constructor; (repeat exact cl_Dk); first | done | fail) : φ := h
theorem su_Dk {φ ψ : Prop} (k : ψ) (h : Hide ψ → φ := by (intro k; (first | refine sl_pu (PuI.sep (by exact pv_Dk)) rfl ?_ | refine sl_yes rfl rfl ?_ | refine sl_no rfl rfl rfl ?_ | refine sl_off rfl rfl rfl ?_ | (fail)); exact k.out)) : φ := h ⟨k⟩
theorem rq_Dk {φ ψ : Prop} (k : ψ) (h : Hide ψ → φ := by (intro k; (first | refine wq_pu (PuI.sep (by exact pv_Dk)) rfl ?_ | refine wq_yes rfl rfl ?_ | refine wq_no rfl rfl rfl ?_ | refine wq_off rfl rfl rfl ?_ | (fail)); exact k.out)) : φ := h ⟨k⟩
theorem sto_Dk {φ ψ : Prop} (k : ψ) (h : Hide ψ → φ := by (intro k; (first | refine sl_store rfl (by exact pick_) rfl rfl (by kernel_rfl) (by exact set_Dk) ?_ | refine sl_store_whole rfl (by exact pick_) rfl (by exact sz_Dk) (by exact sz_Dk) (by exact one_Dk) ?_); exact k.out)) : φ := h ⟨k⟩
theorem go_Dk {φ ψ : Prop} (k : ψ) (h : Hide ψ → φ := by (intro k; (repeat (first | refine su_Dk ?_ | refine so_ ?_ | refine sto_Dk ?_)); exact k.out)) : φ := h ⟨k⟩
set_option maxRecDepth 100000 in
set_option maxHeartbeats 2000000 in
theorem named_ok {K : List Fa} {s : ByteArray} (hs : s.size ≤ 9223372036854775807) :
    Fn Try.prog 34 #[.string s] K (Ret (fun _ : Unit => True) (fun _ => .bool (nameB s)) (fun _ => K)) := by
  refine fn_enter Try.func34 rfl _ Try.ntmps34 (by simp) [(0, .string s)] (args_of (by simp)) ?_
  refine go_Dk ?_
  refine sc_for (fun i : Nat => [(0, .string s), (6, .int .i64 s.size), (7, .int .i64 i)]) (fun _ => K) (fun i => i ≤ s.size ∧ (s.data.toList.take i).all chB = true) (fun i => s.size - i) 0 (by exact has_) (by exact sub_) ⟨Nat.zero_le _, rfl⟩ ?_
  rintro i ⟨hi, hall⟩
  by_cases hlt : i < s.size
  · have hn := str_at hlt
    have hsn := all_snoc hlt
    have hno := all_not hlt
    have hc := ch_cases s[i]
    generalize s[i] = ch at hn hsn hno hc
    rcases hc with ⟨h1, h2⟩ | ⟨h1, h2⟩ | ⟨h1, h2⟩ | ⟨h1, h2⟩ | ⟨⟨h0, h1⟩, h2⟩ | ⟨⟨h0, h1⟩, h2⟩ | ⟨⟨h0, h1⟩, h2⟩ | ⟨h1, h2⟩
    all_goals
      refine go_Dk ?_
      first
        | exact se_round (i + 1) (by exact has_) (by exact sub_) ⟨hlt, by rw [hsn, hall, h2]; rfl⟩ (by omega)
        | (rw [show nameB s = false from by unfold nameB; rw [hno h2, Bool.and_false]]; exact se_ret1 () trivial rfl rfl (by exact sub_))
  · obtain rfl : i = s.size := by omega
    rw [List.take_of_length_le (by simp)] at hall
    rw [show nameB s = decide (1 ≤ s.size ∧ s.size ≤ 16) from by unfold nameB; rw [hall, Bool.and_true]]
    by_cases h1 : s.size < 1
    · rw [decide_eq_false (by omega)]
      refine go_Dk ?_
      exact se_ret1 () trivial rfl rfl (by exact sub_)
    by_cases h2 : 16 < s.size
    · rw [decide_eq_false (by omega)]
      refine go_Dk ?_
      exact se_ret1 () trivial rfl rfl (by exact sub_)
    rw [decide_eq_true (by omega)]
    refine go_Dk ?_
    exact se_ret1 () trivial rfl rfl (by exact sub_)
end Go.Proofs.Ytemhhhikopemmaa
/- A disk: New, has, Used, and copies of bytes. -/
namespace Go.Proofs.Ytemhhhikopemmaa
open Go.RowKit Go.MapKept
attribute [local irreducible] Go.Calls Go.Exit.then Go.Exit.inBlock Go.bodyPost Go.Code.wp Go.wpList
theorem ff_one {A : Option Addr} {n c : Nat} {k : IntKind} {s : Int} : ∀ v ∈ [Value.slice A n c, .int k s], v.oneCell' = true := by
  intro v hv
  simp only [List.mem_cons, List.not_mem_nil, or_false] at hv
  rcases hv with rfl | rfl <;> rfl
theorem pu_field2 {P : Program} {C : World → Prop} {n : Nat} {l : Env} {ty t : TypeId} {x : Operand} {cs : List Value} {i o : Nat} {fs : List Field} {f : Field} {v : Value} (hx : ev l x = some (.agg cs.toArray)) (ht : P.underlying t = some (.struct fs.toArray)) (hf : fs[i]? = some f) (ho : f.offset = o) (hp : plainT P f.type = true) (hn : nth cs o = some v) : Pu P C n l (.field t x i) ty v := by
  unfold Pu
  intro a _ _ _ _ W hs _
  obtain ⟨⟨d, hu, hagg⟩, _⟩ := plainT_spec hp
  subst ho
  rw [nth_eq] at hn
  simp only [execOp, hs.ev hx]
  simp [Instr.field, run_underlying ht, hf, part, asAgg, hagg, hn]
theorem sub_dS0 {L L' : List Fa} (h : Sub L L') : Sub L (dS [] :: L') := by
  show Sub L (star [] :: L')
  exact .free (fun w => by unfold star; exact (Sep.start w).sub Sub.nil) (fun j hj => by unfold star at hj; exact foot_nil hj) h
theorem nth_Dk2 {φ : Prop} (h : φ := by (first | rfl | rfl)) : φ := h
theorem mid_Dk2 {φ : Prop} (h : φ := by (first | exact Mid.all | exact Mid.all | exact Mid.head)) : φ := h
theorem sz_Dk2 {φ : Prop} (h : φ := by (first | rfl | (rfl; first | done | fail))) : φ := h
theorem one_Dk2 {φ : Prop} (h : φ := by (first | assumption | exact first | exact one_bytes _ | exact ff_one | (simp only [List.mem_cons, List.not_mem_nil, or_false, forall_eq_or_imp, forall_eq]; decide) | exact one_bytes _)) : φ := h
theorem set_Dk2 {φ : Prop} (h : φ := by (first | (fail) | ((repeat (first | exact SetAt.here | apply SetAt.there)); first | done | fail))) : φ := h
theorem cl_Dk2 {φ : Prop} (h : φ := by first | rfl | exact .t | exact .f | exact .t (by omega) | exact .f (by omega) | exact .u | exact .i (by (first | exact .t (by omega) | exact .f (by omega) | exact .u | exact .i (by omega) | exact .v (by omega) | exact .b (by omega) | exact .w | rfl | omega)) | exact .v (by omega) | exact .b (by omega) | exact .q (by omega) | exact .w | exact .b (by exact at_) rfl (by exact nth_Dk2) | exact .w (by exact at_) rfl rfl (by exact sz_Dk2) | exact .s (by exact at_) (by exact mid_Dk2) rfl rfl (by exact sz_Dk2) | exact .z rfl rfl ⟨by kernel_rfl⟩ | exact .b rfl rfl ⟨by kernel_rfl⟩ | exact .a rfl rfl ⟨by kernel_rfl⟩ | exact .o rfl | exact .s | exact .n | exact .p rfl | exact .q rfl | exact .c rfl | exact .d rfl | exact .n rfl rfl (by omega) | exact .a rfl rfl (by omega) | exact .p rfl rfl (by omega) (by omega) | exact .y rfl rfl (by omega) (by omega) | exact .o (by exact at_) (by omega) rfl (by exact nth_Dk2) | exact .m (by exact at_) (by omega) (by exact mid_Dk2) rfl rfl (by exact sz_Dk2) | exact .mlen (by exact at_) rfl | exact .t (by exact at_) rfl rfl (by first | exact True.intro | rfl) (by assumption) | exact .f (by exact at_) rfl rfl (by first | exact True.intro | rfl) (by assumption) rfl | exact .t1 (by exact at_) rfl rfl (by first | exact True.intro | rfl) (by assumption) | exact .f1 (by exact at_) rfl rfl (by first | exact True.intro | rfl) (by assumption) rfl | exact .r rfl rfl (by omega) (by omega) (by exact nth_Dk2) rfl | exact .s rfl (by omega) (by assumption) | exact at_ | assumption | exact .r rfl rfl | exact .h rfl rfl rfl (by omega) | exact .l rfl rfl rfl (by omega) (by omega) | exact .g rfl rfl rfl rfl (by omega) (by omega) | exact .h rfl rfl (toN_ (by omega)) (by omega) | exact .l rfl rfl (toN_ (by omega)) (by omega) (by omega) | exact .g rfl rfl (toN_ (by omega)) (toN_ (by omega)) (by omega) (by omega) | exact .o (by decide) | exact .f (by decide) | exact .n (by omega) (by first | decide | (show _ ≤ ((64 : Nat) : Int); omega)) | (constructor; (repeat (first | exact .t (by omega) | exact .f (by omega) | exact .u | exact .i (by omega) | exact .v (by omega) | exact .b (by omega) | exact .w | rfl | omega)); first | done | fail) | omega | (show _ ≤ ((64 : Nat) : Int); omega)) : φ := h
theorem pv_Dk2 {φ : Prop} (h : φ := by constructor; (repeat exact cl_Dk2); first | done | fail) : φ := h
theorem su_Dk2 {φ ψ : Prop} (k : ψ) (h : Hide ψ → φ := by (intro k; (first | refine sl_pu (PuI.sep (by exact pv_Dk2)) rfl ?_ | refine sl_yes rfl rfl ?_ | refine sl_no rfl rfl rfl ?_ | refine sl_off rfl rfl rfl ?_ | (fail)); exact k.out)) : φ := h ⟨k⟩
theorem rq_Dk2 {φ ψ : Prop} (k : ψ) (h : Hide ψ → φ := by (intro k; (first | refine wq_pu (PuI.sep (by exact pv_Dk2)) rfl ?_ | refine wq_yes rfl rfl ?_ | refine wq_no rfl rfl rfl ?_ | refine wq_off rfl rfl rfl ?_ | (fail)); exact k.out)) : φ := h ⟨k⟩
theorem sto_Dk2 {φ ψ : Prop} (k : ψ) (h : Hide ψ → φ := by (intro k; (first | refine sl_store rfl (by exact pick_) rfl rfl (by kernel_rfl) (by exact set_Dk2) ?_ | refine sl_store_whole rfl (by exact pick_) rfl (by exact sz_Dk2) (by exact sz_Dk2) (by exact one_Dk2) ?_); exact k.out)) : φ := h ⟨k⟩
theorem go_Dk2 {φ ψ : Prop} (k : ψ) (h : Hide ψ → φ := by (intro k; (repeat (first | refine su_Dk2 ?_ | refine so_ ?_ | refine sto_Dk2 ?_)); exact k.out)) : φ := h ⟨k⟩
set_option maxRecDepth 100000 in
set_option maxHeartbeats 2000000 in
theorem clone_ok {K : List Fa} {A : Option Addr} {n c : Nat} {bs : List Int} (hr : Vw K (fun w => Reads w 1 A n (bytes bs))) (hn : n ≤ 70368744177664) :
    Fn Try.prog 44 #[.slice A n c] K (Ret (fun _ : Option Addr × Nat => True) (fun q => .slice q.1 n q.2) (fun q => own 5 1 q.1 n q.2 (bytes bs) :: K)) := by
  refine fn_enter Try.func44 rfl _ Try.ntmps44 (by simp) [(0, .slice A n c)] (args_of (by simp)) ?_
  cases A with
  | none =>
    refine sc_know (φ := n = 0) (fun w hw => ?_) ?_
    · rcases Nat.eq_zero_or_pos n with h | h
      · exact h
      · obtain ⟨ad, h1, _⟩ := (hr w hw).2 h
        cases h1
    intro h0
    subst h0
    refine sc_know (vw_len hr) ?_
    intro hl
    obtain rfl : bs = [] := List.eq_nil_of_length_eq_zero hl
    refine go_Dk2 ?_
    exact se_ret1 (none, 0) trivial rfl rfl (Sub.own_nil Sub.refl)
  | some a =>
    refine go_Dk2 ?_
    refine sl_build0 (e := 5) (size := 1) rfl (fun W => by kernel_rfl) rfl ?_
    intro g0
    refine go_Dk2 ?_
    refine sl_app rfl (by exact pick_) rfl (hr.mono (by exact sub_)) (one_bytes _) rfl Try.info5 (by decide) (by decide) rfl (by unfold maxLen; omega) (by omega) ?_
    intro A2 c2
    rw [Nat.zero_add, List.nil_append]
    refine go_Dk2 ?_
    exact se_ret1 (A2, c2) trivial rfl rfl (by exact sub_)
def limL (x : Int) : Int := if 1048576 < (if x < 0 then 0 else x) then 1048576 else (if x < 0 then 0 else x)
theorem limL_ok (x : Int) : 0 ≤ limL x ∧ limL x ≤ 1048576 := by unfold limL; split <;> split <;> omega
set_option maxRecDepth 100000 in
set_option maxHeartbeats 2000000 in
theorem newD_ok {K : List Fa} {x : Int} :
    Fn Try.prog 18 #[.int .i64 x] K (Ret (fun _ : Nat × Nat => True) (fun q => .pointer (some ⟨q.1, 0, none⟩)) (fun q => dB q.1 q.2 (limL x) :: dM q.2 [] 0 :: dS [] :: K)) := by
  refine fn_enter Try.func18 rfl _ Try.ntmps18 (by simp) [(0, .int .i64 x)] (args_of (by simp)) ?_
  have hl : limL x = if 1048576 < (if x < 0 then 0 else x) then 1048576 else (if x < 0 then 0 else x) := rfl
  refine go_Dk2 ?_
  refine sl_makeMap (d := .string) rfl ?_
  intro m
  refine go_Dk2 ?_
  rw [← hl]
  generalize limL x = lim
  refine sl_pu (pu_build (v := .agg #[.map (some m), .int .i64 lim]) rfl (fun W => by kernel_rfl)) rfl ?_
  refine sl_box rfl rfl rfl ?_
  intro g
  refine go_Dk2 ?_
  exact se_ret1 (g, m) trivial rfl rfl (.cons .here (.cons .here (sub_dS0 .refl)))
set_option maxRecDepth 100000 in
set_option maxHeartbeats 2000000 in
theorem has_yes {K : List Fa} {g m ck : Nat} {lim : Int} {fs : List DF} {f : DF} (hB : At (dB g m lim) K) (hM : At (dM m fs ck) K) (hf : f ∈ fs) :
    Fn Try.prog 43 #[.pointer (some ⟨g, 0, none⟩), .string f.s] K (Ret (fun _ : Unit => True) (fun _ => .bool true) (fun _ => K)) := by
  refine fn_enter Try.func43 rfl _ Try.ntmps43 (by simp) [(0, .pointer (some ⟨g, 0, none⟩)), (1, .string f.s)] (args_of (by simp)) ?_
  have hg := dget hf
  unfold DF.val at hg
  refine go_Dk2 ?_
  refine sl_alloc rfl rfl rfl ?_; intro g5
  refine go_Dk2 ?_
  exact se_ret1 () trivial rfl rfl (by exact sub_)
set_option maxRecDepth 100000 in
set_option maxHeartbeats 2000000 in
theorem has_no {K : List Fa} {g m ck : Nat} {lim : Int} {fs : List DF} {s : ByteArray} (hB : At (dB g m lim) K) (hM : At (dM m fs ck) K) (hf : ¬ DHas fs s) :
    Fn Try.prog 43 #[.pointer (some ⟨g, 0, none⟩), .string s] K (Ret (fun _ : Unit => True) (fun _ => .bool false) (fun _ => K)) := by
  refine fn_enter Try.func43 rfl _ Try.ntmps43 (by simp) [(0, .pointer (some ⟨g, 0, none⟩)), (1, .string s)] (args_of (by simp)) ?_
  have hg := dno hf
  refine go_Dk2 ?_
  refine sl_alloc rfl rfl rfl ?_; intro g5
  refine go_Dk2 ?_
  exact se_ret1 () trivial rfl rfl (by exact sub_)
set_option maxRecDepth 100000 in
set_option maxHeartbeats 2000000 in
theorem hasD_nil {K : List Fa} {s : ByteArray} :
    Fn Try.prog 43 #[.pointer none, .string s] K (Ret (fun _ : Unit => True) (fun _ => .bool false) (fun _ => K)) := by
  refine fn_enter Try.func43 rfl _ Try.ntmps43 (by simp) [(0, .pointer none), (1, .string s)] (args_of (by simp)) ?_
  refine go_Dk2 ?_
  exact se_ret1 () trivial rfl rfl (by exact sub_)
end Go.Proofs.Ytemhhhikopemmaa
/- A nil disk. -/
namespace Go.Proofs.Ytemhhhikopemmaa
open Go.RowKit Go.MapKept
attribute [local irreducible] Go.Calls Go.Exit.then Go.Exit.inBlock Go.bodyPost Go.Code.wp Go.wpList
theorem nth_Dk5 {φ : Prop} (h : φ := by (first | rfl | rfl)) : φ := h
theorem mid_Dk5 {φ : Prop} (h : φ := by (first | exact Mid.all | exact Mid.all | exact Mid.head)) : φ := h
theorem sz_Dk5 {φ : Prop} (h : φ := by (first | rfl | (rfl; first | done | fail))) : φ := h
theorem one_Dk5 {φ : Prop} (h : φ := by (first | assumption | exact one_bytes _ | (simp only [List.mem_cons, List.not_mem_nil, or_false, forall_eq_or_imp, forall_eq]; decide) | exact one_bytes _)) : φ := h
theorem set_Dk5 {φ : Prop} (h : φ := by (first | (fail) | ((repeat (first | exact SetAt.here | apply SetAt.there)); first | done | fail))) : φ := h
theorem cl_Dk5 {φ : Prop} (h : φ := by first | rfl | exact .t | exact .f | exact .t (by omega) | exact .f (by omega) | exact .u | exact .i (by (first | exact .t (by omega) | exact .f (by omega) | exact .u | exact .i (by omega) | exact .v (by omega) | exact .b (by omega) | exact .w | rfl | omega)) | exact .v (by omega) | exact .b (by omega) | exact .q (by omega) | exact .w | exact .b (by exact at_) rfl (by exact nth_Dk5) | exact .w (by exact at_) rfl rfl (by exact sz_Dk5) | exact .s (by exact at_) (by exact mid_Dk5) rfl rfl (by exact sz_Dk5) | exact .z rfl rfl ⟨by kernel_rfl⟩ | exact .b rfl rfl ⟨by kernel_rfl⟩ | exact .a rfl rfl ⟨by kernel_rfl⟩ | exact .o rfl | exact .s | exact .n | exact .p rfl | exact .q rfl | exact .c rfl | exact .d rfl | exact .n rfl rfl (by omega) | exact .a rfl rfl (by omega) | exact .p rfl rfl (by omega) (by omega) | exact .y rfl rfl (by omega) (by omega) | exact .o (by exact at_) (by omega) rfl (by exact nth_Dk5) | exact .m (by exact at_) (by omega) (by exact mid_Dk5) rfl rfl (by exact sz_Dk5) | exact .mlen (by exact at_) rfl | exact .t (by exact at_) rfl rfl (by first | exact True.intro | rfl) (by assumption) | exact .f (by exact at_) rfl rfl (by first | exact True.intro | rfl) (by assumption) rfl | exact .t1 (by exact at_) rfl rfl (by first | exact True.intro | rfl) (by assumption) | exact .f1 (by exact at_) rfl rfl (by first | exact True.intro | rfl) (by assumption) rfl | exact .r rfl rfl (by omega) (by omega) (by exact nth_Dk5) rfl | exact .s rfl (by omega) (by assumption) | exact at_ | assumption | exact .r rfl rfl | exact .h rfl rfl rfl (by omega) | exact .l rfl rfl rfl (by omega) (by omega) | exact .g rfl rfl rfl rfl (by omega) (by omega) | exact .h rfl rfl (toN_ (by omega)) (by omega) | exact .l rfl rfl (toN_ (by omega)) (by omega) (by omega) | exact .g rfl rfl (toN_ (by omega)) (toN_ (by omega)) (by omega) (by omega) | exact .o (by decide) | exact .f (by decide) | exact .n (by omega) (by first | decide | (show _ ≤ ((64 : Nat) : Int); omega)) | (constructor; (repeat (first | exact .t (by omega) | exact .f (by omega) | exact .u | exact .i (by omega) | exact .v (by omega) | exact .b (by omega) | exact .w | rfl | omega)); first | done | fail) | omega | (show _ ≤ ((64 : Nat) : Int); omega)) : φ := h
theorem pv_Dk5 {φ : Prop} (h : φ := by constructor; (repeat exact cl_Dk5); first | done | fail) : φ := h
theorem su_Dk5 {φ ψ : Prop} (k : ψ) (h : Hide ψ → φ := by (intro k; (first | refine sl_pu (PuI.sep (by exact pv_Dk5)) rfl ?_ | refine sl_yes rfl rfl ?_ | refine sl_no rfl rfl rfl ?_ | refine sl_off rfl rfl rfl ?_ | (fail)); exact k.out)) : φ := h ⟨k⟩
theorem rq_Dk5 {φ ψ : Prop} (k : ψ) (h : Hide ψ → φ := by (intro k; (first | refine wq_pu (PuI.sep (by exact pv_Dk5)) rfl ?_ | refine wq_yes rfl rfl ?_ | refine wq_no rfl rfl rfl ?_ | refine wq_off rfl rfl rfl ?_ | (fail)); exact k.out)) : φ := h ⟨k⟩
theorem sto_Dk5 {φ ψ : Prop} (k : ψ) (h : Hide ψ → φ := by (intro k; (first | refine sl_store rfl (by exact pick_) rfl rfl (by kernel_rfl) (by exact set_Dk5) ?_ | refine sl_store_whole rfl (by exact pick_) rfl (by exact sz_Dk5) (by exact sz_Dk5) (by exact one_Dk5) ?_); exact k.out)) : φ := h ⟨k⟩
theorem go_Dk5 {φ ψ : Prop} (k : ψ) (h : Hide ψ → φ := by (intro k; (repeat (first | refine su_Dk5 ?_ | refine so_ ?_ | refine sto_Dk5 ?_)); exact k.out)) : φ := h ⟨k⟩
set_option maxRecDepth 100000 in
set_option maxHeartbeats 2000000 in
theorem nilRead {K : List Fa} {s : ByteArray} :
    Fn Try.prog 31 #[.pointer none, .string s] K (Ret (fun _ : Unit => True) (fun _ => .tuple #[.slice none 0 0, .int .i64 1]) (fun _ => K)) := by
  refine fn_enter Try.func31 rfl _ Try.ntmps31 (by simp) [(0, .pointer none), (1, .string s)] (args_of (by simp)) ?_
  refine go_Dk5 ?_
  exact se_ret2 () trivial rfl rfl rfl rfl (by exact sub_)
set_option maxRecDepth 100000 in
set_option maxHeartbeats 2000000 in
theorem nilAppend {K : List Fa} {s : ByteArray} {v : Value} :
    Fn Try.prog 19 #[.pointer none, .string s, v] K (Ret (fun _ : Unit => True) (fun _ => .int .i64 1) (fun _ => K)) := by
  refine fn_enter Try.func19 rfl _ Try.ntmps19 (by simp) [(0, .pointer none), (1, .string s), (2, v)] (args_of (by simp)) ?_
  refine go_Dk5 ?_
  exact se_ret1 () trivial rfl rfl (by exact sub_)
set_option maxRecDepth 100000 in
set_option maxHeartbeats 2000000 in
theorem nilSync {K : List Fa} {s : ByteArray} :
    Fn Try.prog 20 #[.pointer none, .string s] K (Ret (fun _ : Unit => True) (fun _ => .int .i64 1) (fun _ => K)) := by
  refine fn_enter Try.func20 rfl _ Try.ntmps20 (by simp) [(0, .pointer none), (1, .string s)] (args_of (by simp)) ?_
  refine go_Dk5 ?_
  exact se_ret1 () trivial rfl rfl (by exact sub_)
set_option maxRecDepth 100000 in
set_option maxHeartbeats 2000000 in
theorem nilCut {K : List Fa} {s : ByteArray} {k : Int} :
    Fn Try.prog 33 #[.pointer none, .string s, .int .i64 k] K (Ret (fun _ : Unit => True) (fun _ => .int .i64 1) (fun _ => K)) := by
  refine fn_enter Try.func33 rfl _ Try.ntmps33 (by simp) [(0, .pointer none), (1, .string s), (2, .int .i64 k)] (args_of (by simp)) ?_
  refine go_Dk5 ?_
  exact se_ret1 () trivial rfl rfl (by exact sub_)
set_option maxRecDepth 100000 in
set_option maxHeartbeats 2000000 in
theorem nilTurn {K : List Fa} {s : ByteArray} {k : Int} :
    Fn Try.prog 21 #[.pointer none, .string s, .int .i64 k] K (Ret (fun _ : Unit => True) (fun _ => .int .i64 1) (fun _ => K)) := by
  refine fn_enter Try.func21 rfl _ Try.ntmps21 (by simp) [(0, .pointer none), (1, .string s), (2, .int .i64 k)] (args_of (by simp)) ?_
  refine go_Dk5 ?_
  exact se_ret1 () trivial rfl rfl (by exact sub_)
set_option maxRecDepth 100000 in
set_option maxHeartbeats 2000000 in
theorem nilLoose {K : List Fa} {s : ByteArray} :
    Fn Try.prog 32 #[.pointer none, .string s] K (Ret (fun _ : Unit => True) (fun _ => .int .i64 0) (fun _ => K)) := by
  refine fn_enter Try.func32 rfl _ Try.ntmps32 (by simp) [(0, .pointer none), (1, .string s)] (args_of (by simp)) ?_
  refine go_Dk5 ?_
  refine sl_call rfl rfl (by kernel_rfl) rfl Sub.refl hasD_nil ?_
  rintro _ -
  refine go_Dk5 ?_
  exact se_ret1 () trivial rfl rfl (by exact sub_)
set_option maxRecDepth 100000 in
set_option maxHeartbeats 2000000 in
theorem nilUsed {K : List Fa}  :
    Fn Try.prog 35 #[.pointer none] K (Ret (fun _ : Unit => True) (fun _ => .int .i64 0) (fun _ => K)) := by
  refine fn_enter Try.func35 rfl _ Try.ntmps35 (by simp) [(0, .pointer none)] (args_of (by simp)) ?_
  refine go_Dk5 ?_
  exact se_ret1 () trivial rfl rfl (by exact sub_)
set_option maxRecDepth 100000 in
set_option maxHeartbeats 2000000 in
theorem nilNames {K : List Fa}  :
    Fn Try.prog 28 #[.pointer none] K (Ret (fun _ : Unit => True) (fun _ => .slice none 0 0) (fun _ => K)) := by
  refine fn_enter Try.func28 rfl _ Try.ntmps28 (by simp) [(0, .pointer none)] (args_of (by simp)) ?_
  refine go_Dk5 ?_
  exact se_ret1 () trivial rfl rfl (by exact sub_)
set_option maxRecDepth 100000 in
set_option maxHeartbeats 2000000 in
theorem nilCopy {K : List Fa}  :
    Fn Try.prog 29 #[.pointer none] K (Ret (fun _ : Unit => True) (fun _ => .pointer none) (fun _ => K)) := by
  refine fn_enter Try.func29 rfl _ Try.ntmps29 (by simp) [(0, .pointer none)] (args_of (by simp)) ?_
  refine go_Dk5 ?_
  exact se_ret1 () trivial rfl rfl (by exact sub_)
set_option maxRecDepth 100000 in
set_option maxHeartbeats 2000000 in
theorem nilCrash {K : List Fa} {k : Int} :
    Fn Try.prog 30 #[.pointer none, .int .i64 k] K (Ret (fun _ : Unit => True) (fun _ => .tuple #[]) (fun _ => K)) := by
  refine fn_enter Try.func30 rfl _ Try.ntmps30 (by simp) [(0, .pointer none), (1, .int .i64 k)] (args_of (by simp)) ?_
  refine go_Dk5 ?_
  refine sl_call rfl rfl (by kernel_rfl) rfl Sub.refl nilNames ?_
  rintro _ -
  refine go_Dk5 ?_
  refine sc_for (fun _ : Unit => [(10, .int .i64 0), (11, .int .i64 0)]) (fun _ => K) (fun _ => True) (fun _ => 0) () (by exact has_) (by exact sub_) trivial ?_
  rintro _ -
  refine go_Dk5 ?_
  exact se_end0 () trivial rfl rfl (by exact sub_)
end Go.Proofs.Ytemhhhikopemmaa
/- A disk: names, what is used; reading; Sync, Cut, Turn, at a file that is there. -/
namespace Go.Proofs.Ytemhhhikopemmaa
open Go.RowKit Go.MapKept
attribute [local irreducible] Go.Calls Go.Exit.then Go.Exit.inBlock Go.bodyPost Go.Code.wp Go.wpList
theorem own_PD {e : TypeId} {size n c : Nat} {A : Option Addr} {xs : List Value} {w : World} (h : (own e size A n c xs).P w) : w.ownsRow 0 e size (.slice A n c) n xs := by
  unfold own at h
  exact h
section
variable {P : Program} {ops : Array Oper} {Q : Exit → Act → World → Prop} {n : Nat} {l : Env} {L L' : List Fa} {rest : List Oper} {ty t kt e : TypeId} {pos : String} {after : Array Edge} {x y u : Operand} {m ck : Nat} {X Y fs : List DF} {f f' : DF} {K : List Fa}
theorem dM_split : dM m (X ++ f :: Y) ck = mp m .string (X.map DF.ent ++ f.ent :: Y.map DF.ent) ck := by
  show mp m .string ((X ++ f :: Y).map DF.ent) ck = _
  rw [List.map_append, List.map_cons]
theorem sl_dput (hx : ev l x = some (.map (some m))) (hy : ev l y = some (.string f.s)) (hu : ev l u = some f'.val) (hs : f'.s = f.s) (hb : f'.bn = f.bn) (hp : Pick (dM m (X ++ f :: Y) ck) L L') (ht : P.underlying t = some (.map kt e)) (hd : P.underlying kt = some .string)
    (h : SL P ops Q rest n l (dM m (X ++ f' :: Y) ck :: L')) : SL P ops Q (⟨none, .mapUpdate t x y u, ty, pos, after, none⟩ :: rest) n l L := by
  rw [dM_split] at hp h
  refine sl_mapPut (me := f.ent) hx hy hu hp ht hd True.intro ?_
  have he : (⟨f.ent.key, f'.val, f.ent.born⟩ : MapEntry) = f'.ent := by
    unfold DF.ent
    rw [hs, hb]
  rw [he]
  exact h
theorem sl_dnew {s : ByteArray} (hx : ev l x = some (.map (some m))) (hy : ev l y = some (.string s)) (hu : ev l u = some f'.val) (hs : f'.s = s) (hb : f'.bn = ck) (hn : ¬ DHas fs s) (hp : Pick (dM m fs ck) L L') (ht : P.underlying t = some (.map kt e)) (hd : P.underlying kt = some .string)
    (h : SL P ops Q rest n l (dM m (fs ++ [f']) (ck + 1) :: L')) : SL P ops Q (⟨none, .mapUpdate t x y u, ty, pos, after, none⟩ :: rest) n l L := by
  refine sl_mapNew hx hy hu hp ht hd True.intro (dno hn) ?_
  have he : fs.map DF.ent ++ [(⟨.string s, f'.val, ck⟩ : MapEntry)] = (fs ++ [f']).map DF.ent := by
    rw [List.map_append]
    unfold DF.ent
    simp [hs, hb]
  rw [he]
  exact h
theorem ds_swap : Ent_ (f'.fa :: dS (X ++ f :: Y) :: K) (dS (X ++ f' :: Y) :: K) := fun w hw => by
  have e1 : dS (X ++ f :: Y) = star (X.map DF.fa ++ f.fa :: Y.map DF.fa) := by
    show star _ = _
    rw [List.map_append, List.map_cons]
  have e2 : dS (X ++ f' :: Y) = star (X.map DF.fa ++ f'.fa :: Y.map DF.fa) := by
    show star _ = _
    rw [List.map_append, List.map_cons]
  rw [e1] at hw
  rw [e2]
  have h1 : Sep w (star (X.map DF.fa ++ f.fa :: Y.map DF.fa) :: f'.fa :: K) := hw.sub (Sub.cons (Pick.there Pick.here) (Sub.cons Pick.here Sub.refl))
  have h2 := star_pull w h1
  have h3 : Sep w (f'.fa :: star (X.map DF.fa ++ Y.map DF.fa) :: K) := h2.sub (Sub.cons (Pick.there (Pick.there Pick.here)) (Sub.skip (Sub.cons Pick.here Sub.refl)))
  exact star_push w h3
theorem ds_new : Ent_ (f'.fa :: dS fs :: K) (dS (fs ++ [f']) :: K) := fun w hw => by
  have e2 : dS (fs ++ [f']) = star (fs.map DF.fa ++ f'.fa :: []) := by
    show star _ = _
    rw [List.map_append, List.map_cons, List.map_nil]
  rw [e2]
  refine star_push w ?_
  rw [List.append_nil]
  exact hw
theorem ds_sy {k : Nat} : dS (X ++ { f with sy := k } :: Y) = dS (X ++ f :: Y) := by
  show star _ = star _
  rw [List.map_append, List.map_append, List.map_cons, List.map_cons]
theorem ds_get (h : At (dS fs) L) (hf : f ∈ fs) : Vw L (fun w => Reads w 1 f.A f.l.length (bytes f.l)) := fun w hw => Reads.of_own (own_PD (star_get h (List.mem_map.2 ⟨f, hf, rfl⟩) w hw))
theorem mid_mem : f ∈ X ++ f :: Y := by simp
end
def usedN (fs : List DF) : Nat := (fs.map (·.l.length)).sum
theorem used_app {X Y : List DF} : usedN (X ++ Y) = usedN X + usedN Y := by simp [usedN]
theorem used_cons {f : DF} {Y : List DF} : usedN (f :: Y) = f.l.length + usedN Y := by simp [usedN]
theorem used_le {f : DF} {fs : List DF} (h : f ∈ fs) : f.l.length ≤ usedN fs := by
  obtain ⟨X, Y, rfl⟩ := List.append_of_mem h
  rw [used_app, used_cons]
  omega
theorem used_perm {us fs : List DF} (h : us.Perm fs) : usedN us = usedN fs := (h.map _).sum_nat
theorem mp_nodup {L : List Fa} {m ck : Nat} {fs : List DF} (h : At (dM m fs ck) L) : ∀ w, Sep w L → fs.Nodup ∧ fs.Pairwise (fun a b => a.s ≠ b.s) := fun w hw => by
  have h1 : MapP m .string (fs.map DF.ent) ck w := mp_P ▸ hw.at h
  have h3 := ((stamped_iff _ _).1 h1.2.1).2.2
  rw [List.toList_toArray, List.pairwise_map] at h3
  have h4 : fs.Pairwise (fun a b => a.s ≠ b.s) := h3.imp (fun {a b} hab e => hab (congrArg Value.string e))
  exact ⟨h4.imp (fun {a b} hab e => hab (congrArg DF.s e)), h4⟩
theorem sub_split {α : Type} {us fs : List α} (h1 : us.Nodup) (h2 : fs.Nodup) (hs : ∀ u ∈ us, u ∈ fs) : ∃ z, (us ++ z).Perm fs := by
  classical
  refine ⟨fs.filter (fun x => decide (x ∉ us)), (List.perm_ext_iff_of_nodup (List.nodup_append.2 ⟨h1, h2.filter _, fun a ha b hb e => ?_⟩) h2).2 fun x => ?_⟩
  · subst e
    simp only [List.mem_filter, decide_eq_true_eq] at hb
    exact hb.2 ha
  · simp only [List.mem_append, List.mem_filter, decide_eq_true_eq]
    refine ⟨fun h => h.elim (hs x) (·.1), fun h => ?_⟩
    by_cases hx : x ∈ us
    · exact .inl hx
    · exact .inr ⟨h, hx⟩
theorem ent_inj {a b : DF} {fs : List DF} (hn : fs.Pairwise (fun a b => a.s ≠ b.s)) (ha : a ∈ fs) (hb : b ∈ fs) (h : a.ent = b.ent) : a = b := by
  have hk : Value.string a.s = .string b.s := congrArg MapEntry.key h
  injection hk with hk
  exact pw_one (f := DF.s) hn ha hb hk
theorem ff_oneD {A : Option Addr} {n c : Nat} {k : IntKind} {s : Int} : ∀ v ∈ [Value.slice A n c, .int k s], v.oneCell' = true := ff_one
theorem nth_Dk3 {φ : Prop} (h : φ := by (first | rfl | rfl)) : φ := h
theorem mid_Dk3 {φ : Prop} (h : φ := by (first | exact Mid.all | exact Mid.all | exact Mid.head)) : φ := h
theorem sz_Dk3 {φ : Prop} (h : φ := by (first | rfl | (rfl; first | done | fail))) : φ := h
theorem one_Dk3 {φ : Prop} (h : φ := by (first | assumption | exact first | exact one_bytes _ | exact ff_one | (simp only [List.mem_cons, List.not_mem_nil, or_false, forall_eq_or_imp, forall_eq]; decide) | exact one_bytes _)) : φ := h
theorem set_Dk3 {φ : Prop} (h : φ := by (first | (fail) | ((repeat (first | exact SetAt.here | apply SetAt.there)); first | done | fail))) : φ := h
theorem cl_Dk3 {φ : Prop} (h : φ := by first | rfl | exact .t | exact .f | exact .t (by omega) | exact .f (by omega) | exact .u | exact .i (by (first | exact .t (by omega) | exact .f (by omega) | exact .u | exact .i (by omega) | exact .v (by omega) | exact .b (by omega) | exact .w | rfl | omega)) | exact .v (by omega) | exact .b (by omega) | exact .q (by omega) | exact .w | exact .b (by exact at_) rfl (by exact nth_Dk3) | exact .w (by exact at_) rfl rfl (by exact sz_Dk3) | exact .s (by exact at_) (by exact mid_Dk3) rfl rfl (by exact sz_Dk3) | exact .z rfl rfl ⟨by kernel_rfl⟩ | exact .b rfl rfl ⟨by kernel_rfl⟩ | exact .a rfl rfl ⟨by kernel_rfl⟩ | exact .o rfl | exact .s | exact .n | exact .p rfl | exact .q rfl | exact .c rfl | exact .d rfl | exact .n rfl rfl (by omega) | exact .a rfl rfl (by omega) | exact .p rfl rfl (by omega) (by omega) | exact .y rfl rfl (by omega) (by omega) | exact .o (by exact at_) (by omega) rfl (by exact nth_Dk3) | exact .m (by exact at_) (by omega) (by exact mid_Dk3) rfl rfl (by exact sz_Dk3) | exact .mlen (by exact at_) rfl | exact .t (by exact at_) rfl rfl (by first | exact True.intro | rfl) (by assumption) | exact .f (by exact at_) rfl rfl (by first | exact True.intro | rfl) (by assumption) rfl | exact .t1 (by exact at_) rfl rfl (by first | exact True.intro | rfl) (by assumption) | exact .f1 (by exact at_) rfl rfl (by first | exact True.intro | rfl) (by assumption) rfl | exact .r rfl rfl (by omega) (by omega) (by exact nth_Dk3) rfl | exact .s rfl (by omega) (by assumption) | exact at_ | assumption | exact .r rfl rfl | exact .h rfl rfl rfl (by omega) | exact .l rfl rfl rfl (by omega) (by omega) | exact .g rfl rfl rfl rfl (by omega) (by omega) | exact .h rfl rfl (toN_ (by omega)) (by omega) | exact .l rfl rfl (toN_ (by omega)) (by omega) (by omega) | exact .g rfl rfl (toN_ (by omega)) (toN_ (by omega)) (by omega) (by omega) | exact .o (by decide) | exact .f (by decide) | exact .n (by omega) (by first | decide | (show _ ≤ ((64 : Nat) : Int); omega)) | (constructor; (repeat (first | exact .t (by omega) | exact .f (by omega) | exact .u | exact .i (by omega) | exact .v (by omega) | exact .b (by omega) | exact .w | rfl | omega)); first | done | fail) | omega | (show _ ≤ ((64 : Nat) : Int); omega)) : φ := h
theorem pv_Dk3 {φ : Prop} (h : φ := by constructor; (repeat exact cl_Dk3); first | done | fail) : φ := h
theorem su_Dk3 {φ ψ : Prop} (k : ψ) (h : Hide ψ → φ := by (intro k; (first | refine sl_pu (PuI.sep (by exact pv_Dk3)) rfl ?_ | refine sl_yes rfl rfl ?_ | refine sl_no rfl rfl rfl ?_ | refine sl_off rfl rfl rfl ?_ | (fail)); exact k.out)) : φ := h ⟨k⟩
theorem rq_Dk3 {φ ψ : Prop} (k : ψ) (h : Hide ψ → φ := by (intro k; (first | refine wq_pu (PuI.sep (by exact pv_Dk3)) rfl ?_ | refine wq_yes rfl rfl ?_ | refine wq_no rfl rfl rfl ?_ | refine wq_off rfl rfl rfl ?_ | (fail)); exact k.out)) : φ := h ⟨k⟩
theorem sto_Dk3 {φ ψ : Prop} (k : ψ) (h : Hide ψ → φ := by (intro k; (first | refine sl_store rfl (by exact pick_) rfl rfl (by kernel_rfl) (by exact set_Dk3) ?_ | refine sl_store_whole rfl (by exact pick_) rfl (by exact sz_Dk3) (by exact sz_Dk3) (by exact one_Dk3) ?_); exact k.out)) : φ := h ⟨k⟩
theorem go_Dk3 {φ ψ : Prop} (k : ψ) (h : Hide ψ → φ := by (intro k; (repeat (first | refine su_Dk3 ?_ | refine so_ ?_ | refine sto_Dk3 ?_)); exact k.out)) : φ := h ⟨k⟩
set_option maxRecDepth 100000 in
set_option maxHeartbeats 2000000 in
theorem name_ok {K : List Fa} {s : ByteArray} (hs : s.size ≤ 9223372036854775807) :
    Fn Try.prog 42 #[.string s] K (Ret (fun _ : Unit => True) (fun _ => .bool (nameB s)) (fun _ => K)) := by
  refine fn_enter Try.func42 rfl _ Try.ntmps42 (by simp) [(0, .string s)] (args_of (by simp)) ?_
  by_cases h1 : s.size < 1
  · rw [show nameB s = false from by unfold nameB; rw [decide_eq_false (by omega)]; rfl]
    refine go_Dk3 ?_
    exact se_ret1 () trivial rfl rfl (by exact sub_)
  by_cases h2 : 16 < s.size
  · rw [show nameB s = false from by unfold nameB; rw [decide_eq_false (by omega)]; rfl]
    refine go_Dk3 ?_
    exact se_ret1 () trivial rfl rfl (by exact sub_)
  rw [show nameB s = s.data.toList.all chB from by unfold nameB; rw [decide_eq_true (by omega)]; rfl]
  refine go_Dk3 ?_
  refine sc_for (fun i : Nat => [(0, .string s), (14, .int .i64 s.size), (15, .int .i64 i)]) (fun _ => K) (fun i => i ≤ s.size ∧ (s.data.toList.take i).all chB = true) (fun i => s.size - i) 0 (by exact has_) (by exact sub_) ⟨Nat.zero_le _, rfl⟩ ?_
  rintro i ⟨hi, hall⟩
  by_cases hlt : i < s.size
  · have hn := str_at hlt
    have hsn := all_snoc hlt
    have hno := all_not hlt
    have hc := ch_cases s[i]
    generalize s[i] = ch at hn hsn hno hc
    rcases hc with ⟨h1, h2⟩ | ⟨h1, h2⟩ | ⟨h1, h2⟩ | ⟨h1, h2⟩ | ⟨⟨h0, h1⟩, h2⟩ | ⟨⟨h0, h1⟩, h2⟩ | ⟨⟨h0, h1⟩, h2⟩ | ⟨h1, h2⟩
    all_goals
      refine go_Dk3 ?_
      first
        | exact se_round (i + 1) (by exact has_) (by exact sub_) ⟨hlt, by rw [hsn, hall, h2]; rfl⟩ (by omega)
        | (rw [show s.data.toList.all chB = false from hno h2]; exact se_ret1 () trivial rfl rfl (by exact sub_))
  · obtain rfl : i = s.size := by omega
    rw [List.take_of_length_le (by simp)] at hall
    rw [hall]
    refine go_Dk3 ?_
    exact se_ret1 () trivial rfl rfl (by exact sub_)
structure Us where
  us : List DF
  r : Nat
set_option maxRecDepth 100000 in
set_option maxHeartbeats 2000000 in
theorem used_ok {K : List Fa} {g m ck : Nat} {lim : Int} {fs : List DF} (hB : At (dB g m lim) K) (hM : At (dM m fs ck) K) (hu : usedN fs ≤ 1048576) :
    Fn Try.prog 35 #[.pointer (some ⟨g, 0, none⟩)] K (Ret (fun _ : Unit => True) (fun _ => .int .i64 (usedN fs)) (fun _ => K)) := by
  refine fn_know (mp_nodup hM) ?_
  rintro ⟨hnd, hks⟩
  refine fn_enter Try.func35 rfl _ Try.ntmps35 (by simp) [(0, .pointer (some ⟨g, 0, none⟩))] (args_of (by simp)) ?_
  refine go_Dk3 ?_
  refine sl_range rfl (by exact at_) rfl rfl ?_
  intro r
  refine go_Dk3 ?_
  refine sc_for (fun us : List DF => [(3, .int .i64 (usedN us)), (12, .pointer (some ⟨r, 0, none⟩))]) (fun us => itr r m ck (us.map DF.ent) :: K) (fun us => us.Nodup ∧ ∀ u ∈ us, u ∈ fs) (fun us => fs.length - us.length) [] (by exact has_) (by exact sub_) ⟨List.nodup_nil, fun _ h => by cases h⟩ ?_
  rintro us ⟨hun, hus⟩
  refine sc_seq ?_
  refine sc_region ?_
  refine sl_next rfl (by exact at_) .here (fun y hy => by obtain ⟨u, hu, rfl⟩ := List.mem_map.1 hy; exact List.mem_map_of_mem (hus u hu)) rfl (fun hall => ?_) (fun y hy hn => ?_)
  · have hp : us.Perm fs := (List.perm_ext_iff_of_nodup hun hnd).2 fun x => ⟨hus x, fun hx => by
      obtain ⟨u, hu, he⟩ := List.mem_map.1 (hall _ (List.mem_map_of_mem hx))
      rwa [← ent_inj hks (hus u hu) hx he]⟩
    rw [used_perm hp]
    refine go_Dk3 ?_
    exact se_ret1 () trivial rfl rfl (by exact sub_)
  · obtain ⟨f, hf, rfl⟩ := List.mem_map.1 hy
    have hfu : f ∉ us := fun h => hn (List.mem_map_of_mem h)
    have hnd' : (us ++ [f]).Nodup := List.nodup_append.2 ⟨hun, List.nodup_cons.2 ⟨by simp, List.nodup_nil⟩, fun a ha b hb e => by rw [List.mem_singleton] at hb; exact hfu (by rw [← hb, ← e]; exact ha)⟩
    have hsub : ∀ u ∈ us ++ [f], u ∈ fs := fun u h => by
      rcases List.mem_append.1 h with h | h
      · exact hus u h
      · rw [List.mem_singleton] at h
        rw [h]
        exact hf
    obtain ⟨z, hz⟩ := sub_split hnd' hnd hsub
    have hlen := hz.length_eq
    have hsum : usedN us + f.l.length ≤ 1048576 := by
      have h1 := used_perm hz
      rw [used_app, used_app, used_cons] at h1
      omega
    rw [List.length_append, List.length_append, List.length_singleton] at hlen
    have h1 : usedN (us ++ [f]) = usedN us + f.l.length := by rw [used_app, used_cons]; simp [usedN]
    have hm : us.map DF.ent ++ [f.ent] = (us ++ [f]).map DF.ent := by simp
    have hv : f.ent.val = .agg #[.slice f.A f.l.length f.c, .int .i64 f.sy] := rfl
    refine go_Dk3 ?_
    rw [hm]
    refine sl_alloc rfl rfl rfl ?_; intro g5
    refine go_Dk3 ?_
    refine se_round (us ++ [f]) (by rw [h1]; exact has_) (by exact sub_) ⟨hnd', hsub⟩ (by rw [List.length_append, List.length_singleton]; omega)
end Go.Proofs.Ytemhhhikopemmaa
