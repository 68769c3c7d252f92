/- A disk in memory; its smallest functions. -/
import Derived.Test.YtemhhhikopemmaaApp
import Derived.Test.YtemhhhikopemmaaAp
import Derived.Test.YtemhhhikopemmaaPw
namespace Go.Proofs.Ytemhhhikopemmaa
open Go.RowKit Go.MapKept
attribute [local irreducible] Go.Calls Go.Exit.then Go.Exit.inBlock Go.bodyPost Go.Code.wp Go.wpList
/-- A file on a disk: its name, where its bytes lie, its bytes, how many are synced; the number at which it came in. -/
structure DF where
  s : ByteArray
  A : Option Addr
  c : Nat
  l : List Int
  sy : Nat
  bn : Nat
def DF.val (f : DF) : Value := .agg #[.slice f.A f.l.length f.c, .int .i64 f.sy]
def DF.ent (f : DF) : MapEntry := ⟨.string f.s, f.val, f.bn⟩
abbrev DF.fa (f : DF) : Fa := u8o f.A f.c f.l
def DF.ok (f : DF) : Prop := f.sy ≤ f.l.length ∧ IsBytes f.l
abbrev dB (g m : Nat) (lim : Int) : Fa := blk g 86 [.map (some m), .int .i64 lim]
abbrev dM (m : Nat) (fs : List DF) (ck : Nat) : Fa := mp m .string (fs.map DF.ent) ck
abbrev dS (fs : List DF) : Fa := star (fs.map DF.fa)
def DHas (fs : List DF) (s : ByteArray) : Prop := ∃ f ∈ fs, f.s = s
theorem dget {fs : List DF} {f : DF} (h : f ∈ fs) : MGet (fs.map DF.ent) (.string f.s) f.val := ⟨f.ent, List.mem_map.2 ⟨f, h, rfl⟩, rfl, rfl⟩
theorem dno {fs : List DF} {s : ByteArray} (h : ¬ DHas fs s) : MNo (fs.map DF.ent) (.string s) := fun e he hk => by
  obtain ⟨f, hf, rfl⟩ := List.mem_map.1 he
  have hk' : Value.string f.s = .string s := hk
  injection hk' with hk'
  exact h ⟨f, hf, hk'⟩
def fz : List Value := [.slice none 0 0, .int .i64 0]
theorem star_get {f : Fa} {G L : List Fa} (h : At (star G) L) (hf : f ∈ G) : Vw L f.P := fun w hw => by
  have h1 := hw.at h
  unfold star at h1
  exact h1.mem hf
theorem star_pull {A B K : List Fa} {f : Fa} : Ent_ (star (A ++ f :: B) :: K) (f :: star (A ++ B) :: K) := fun w hw => by
  have h1 := star_out w hw
  rw [List.append_assoc, List.cons_append] at h1
  have h2 := (pick_mid A).out w h1
  rw [← List.append_assoc] at h2
  exact Ent_.tail star_in (fun k hk => by
    rcases foot_cons.1 hk with e | e
    · unfold star at e
      obtain ⟨y, hy, hk⟩ := e
      exact ⟨y, List.mem_append_left _ hy, hk⟩
    · obtain ⟨y, hy, hk⟩ := e
      exact ⟨y, List.mem_append_right _ hy, hk⟩) w h2
theorem star_push {A B K : List Fa} {f : Fa} : Ent_ (f :: star (A ++ B) :: K) (star (A ++ f :: B) :: K) := fun w hw => by
  refine star_in w ?_
  rw [List.append_assoc, List.cons_append]
  refine (pick_mid A).back w ?_
  rw [← List.append_assoc]
  exact Ent_.tail star_out (fun k hk => by
    obtain ⟨y, hy, hk⟩ := hk
    rcases List.mem_append.1 hy with e | e
    · exact foot_cons.2 (.inl (by unfold star; exact ⟨y, e, hk⟩))
    · exact foot_cons.2 (.inr ⟨y, e, hk⟩)) w hw
/-- What a name is made of. -/
def chB (c : UInt8) : Bool := (97 ≤ c && c ≤ 122) || (48 ≤ c && c ≤ 57) || c == 46 || c == 45
def nameB (s : ByteArray) : Bool := decide (1 ≤ s.size ∧ s.size ≤ 16) && s.data.toList.all chB
theorem str_at {s : ByteArray} {i : Nat} (h : i < s.size) : s[((i : Nat) : Int).toNat]? = some s[i] := by
  rw [Int.toNat_natCast]
  exact getElem?_pos s i h
set_option maxRecDepth 100000 in
theorem ch_cases (c : UInt8) : (c.toNat < 45 ∧ chB c = false) ∨ (c.toNat = 45 ∧ chB c = true) ∨ (c.toNat = 46 ∧ chB c = true) ∨ (c.toNat = 47 ∧ chB c = false) ∨ ((48 ≤ c.toNat ∧ c.toNat ≤ 57) ∧ chB c = true) ∨ ((58 ≤ c.toNat ∧ c.toNat ≤ 96) ∧ chB c = false) ∨ ((97 ≤ c.toNat ∧ c.toNat ≤ 122) ∧ chB c = true) ∨ (123 ≤ c.toNat ∧ chB c = false) := by
  have h : c.toNat < 256 := c.toNat_lt
  obtain ⟨n, hn⟩ : ∃ n, c.toNat = n := ⟨_, rfl⟩
  have hc : c = UInt8.ofNat n := by rw [← hn]; simp
  rw [hn] at h ⊢
  subst hc
  clear hn
  revert n
  decide
theorem all_snoc {s : ByteArray} {i : Nat} (h : i < s.size) : (s.data.toList.take (i + 1)).all chB = ((s.data.toList.take i).all chB && chB s[i]) := by
  rw [List.take_succ_eq_append_getElem (by simpa using h), List.all_append]
  simp
  rfl
theorem all_not {s : ByteArray} {i : Nat} (h : i < s.size) (hc : chB s[i] = false) : s.data.toList.all chB = false := by
  rw [Bool.eq_false_iff]
  intro ha
  rw [List.all_eq_true] at ha
  have := ha s[i] (by
    have : s[i] ∈ s.data := Array.getElem_mem _
    simpa using this)
  rw [hc] at this
  cases this
theorem nth_Dk {φ : Prop} (h : φ := by (first | rfl | rfl)) : φ := h
theorem mid_Dk {φ : Prop} (h : φ := by (first | exact Mid.all | exact Mid.all | exact Mid.head)) : φ := h
theorem sz_Dk {φ : Prop} (h : φ := by (first | rfl | (rfl; first | done | fail))) : φ := h
theorem one_Dk {φ : Prop} (h : φ := by (first | assumption | exact first | exact one_bytes _ | (simp only [List.mem_cons, List.not_mem_nil, or_false, forall_eq_or_imp, forall_eq]; decide) | exact one_bytes _)) : φ := h
theorem set_Dk {φ : Prop} (h : φ := by (first | (fail) | ((repeat (first | exact SetAt.here | apply SetAt.there)); first | done | fail))) : φ := h
theorem cl_Dk {φ : Prop} (h : φ := by first | rfl | exact .t | exact .f | exact .t (by omega) | exact .f (by omega) | exact .u | exact .i (by (first | exact .t (by omega) | exact .f (by omega) | exact .u | exact .i (by omega) | exact .v (by omega) | exact .b (by omega) | exact .w | rfl | omega)) | exact .v (by omega) | exact .b (by omega) | exact .q (by omega) | exact .w | exact .b (by exact at_) rfl (by exact nth_Dk) | exact .w (by exact at_) rfl rfl (by exact sz_Dk) | exact .s (by exact at_) (by exact mid_Dk) rfl rfl (by exact sz_Dk) | exact .z rfl rfl ⟨by kernel_rfl⟩ | exact .b rfl rfl ⟨by kernel_rfl⟩ | exact .a rfl rfl ⟨by kernel_rfl⟩ | exact .o rfl | exact .s | exact .n | exact .p rfl | exact .q rfl | exact .c rfl | exact .d rfl | exact .n rfl rfl (by omega) | exact .a rfl rfl (by omega) | exact .p rfl rfl (by omega) (by omega) | exact .y rfl rfl (by omega) (by omega) | exact .o (by exact at_) (by omega) rfl (by exact nth_Dk) | exact .m (by exact at_) (by omega) (by exact mid_Dk) rfl rfl (by exact sz_Dk) | exact .mlen (by exact at_) rfl | exact .t (by exact at_) rfl rfl (by first | exact True.intro | rfl) (by assumption) | exact .f (by exact at_) rfl rfl (by first | exact True.intro | rfl) (by assumption) rfl | exact .t1 (by exact at_) rfl rfl (by first | exact True.intro | rfl) (by assumption) | exact .f1 (by exact at_) rfl rfl (by first | exact True.intro | rfl) (by assumption) rfl | exact .r rfl rfl (by omega) (by omega) (by exact nth_Dk) rfl | exact .s rfl (by omega) (by assumption) | exact at_ | assumption | exact .r rfl rfl | exact .h rfl rfl rfl (by omega) | exact .l rfl rfl rfl (by omega) (by omega) | exact .g rfl rfl rfl rfl (by omega) (by omega) | exact .h rfl rfl (toN_ (by omega)) (by omega) | exact .l rfl rfl (toN_ (by omega)) (by omega) (by omega) | exact .g rfl rfl (toN_ (by omega)) (toN_ (by omega)) (by omega) (by omega) | exact .o (by decide) | exact .f (by decide) | exact .n (by omega) (by first | decide | (show _ ≤ ((64 : Nat) : Int); omega)) | (constructor; (repeat (first | exact .t (by omega) | exact .f (by omega) | exact .u | exact .i (by omega) | exact .v (by omega) | exact .b (by omega) | exact .w | rfl | omega)); first | done | fail) | omega | (show _ ≤ ((64 : Nat) : Int); omega)) : φ := h
theorem pv_Dk {φ : Prop} (h : φ := by constructor; (repeat exact cl_Dk); first | done | fail) : φ := h
theorem su_Dk {φ ψ : Prop} (k : ψ) (h : Hide ψ → φ := by (intro k; (first | refine sl_pu (PuI.sep (by exact pv_Dk)) rfl ?_ | refine sl_yes rfl rfl ?_ | refine sl_no rfl rfl rfl ?_ | refine sl_off rfl rfl rfl ?_); exact k.out)) : φ := h ⟨k⟩
theorem rq_Dk {φ ψ : Prop} (k : ψ) (h : Hide ψ → φ := by (intro k; (first | refine wq_pu (PuI.sep (by exact pv_Dk)) rfl ?_ | refine wq_yes rfl rfl ?_ | refine wq_no rfl rfl rfl ?_ | refine wq_off rfl rfl rfl ?_); exact k.out)) : φ := h ⟨k⟩
theorem sto_Dk {φ ψ : Prop} (k : ψ) (h : Hide ψ → φ := by (intro k; (first | refine sl_store rfl (by exact pick_) rfl rfl (by kernel_rfl) (by exact set_Dk) ?_ | refine sl_store_whole rfl (by exact pick_) rfl (by exact sz_Dk) (by exact sz_Dk) (by exact one_Dk) ?_); exact k.out)) : φ := h ⟨k⟩
theorem go_Dk {φ ψ : Prop} (k : ψ) (h : Hide ψ → φ := by (intro k; (repeat (first | refine su_Dk ?_ | refine so_ ?_ | refine sto_Dk ?_)); exact k.out)) : φ := h ⟨k⟩
set_option maxRecDepth 100000 in
set_option maxHeartbeats 2000000 in
theorem named_ok {K : List Fa} {s : ByteArray} (hs : s.size ≤ 9223372036854775807) :
    Fn Try.prog 34 #[.string s] K (Ret (fun _ : Unit => True) (fun _ => .bool (nameB s)) (fun _ => K)) := by
  refine fn_enter Try.func34 rfl _ Try.ntmps34 (by simp) [(0, .string s)] (args_of (by simp)) ?_
  refine go_Dk ?_
  refine sc_for (fun i : Nat => [(0, .string s), (6, .int .i64 s.size), (7, .int .i64 i)]) (fun _ => K) (fun i => i ≤ s.size ∧ (s.data.toList.take i).all chB = true) (fun i => s.size - i) 0 (by exact has_) (by exact sub_) ⟨Nat.zero_le _, rfl⟩ ?_
  rintro i ⟨hi, hall⟩
  by_cases hlt : i < s.size
  · have hn := str_at hlt
    have hsn := all_snoc hlt
    have hno := all_not hlt
    have hc := ch_cases s[i]
    generalize s[i] = ch at hn hsn hno hc
    rcases hc with ⟨h1, h2⟩ | ⟨h1, h2⟩ | ⟨h1, h2⟩ | ⟨h1, h2⟩ | ⟨⟨h0, h1⟩, h2⟩ | ⟨⟨h0, h1⟩, h2⟩ | ⟨⟨h0, h1⟩, h2⟩ | ⟨h1, h2⟩
    all_goals
      refine go_Dk ?_
      first
        | exact se_round (i + 1) (by exact has_) (by exact sub_) ⟨hlt, by rw [hsn, hall, h2]; rfl⟩ (by omega)
        | (rw [show nameB s = false from by unfold nameB; rw [hno h2, Bool.and_false]]; exact se_ret1 () trivial rfl rfl (by exact sub_))
  · obtain rfl : i = s.size := by omega
    rw [List.take_of_length_le (by simp)] at hall
    rw [show nameB s = decide (1 ≤ s.size ∧ s.size ≤ 16) from by unfold nameB; rw [hall, Bool.and_true]]
    by_cases h1 : s.size < 1
    · rw [decide_eq_false (by omega)]
      refine go_Dk ?_
      exact se_ret1 () trivial rfl rfl (by exact sub_)
    by_cases h2 : 16 < s.size
    · rw [decide_eq_false (by omega)]
      refine go_Dk ?_
      exact se_ret1 () trivial rfl rfl (by exact sub_)
    rw [decide_eq_true (by omega)]
    refine go_Dk ?_
    exact se_ret1 () trivial rfl rfl (by exact sub_)
end Go.Proofs.Ytemhhhikopemmaa
