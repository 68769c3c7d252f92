/- Several texts of one claim, one behind the other (Pw, Dk, Pr). -/
import Derived.Test.YtemhhhikopemmaaB09
import Derived.Test.YtemhhhikopemmaaB10
import Derived.Test.YtemhhhikopemmaaB01
import Derived.Test.YtemhhhikopemmaaB03
/- pack.Writer over facts; the reference's Uint and Long. -/
namespace Go.Proofs.Ytemhhhikopemmaa
open Go.RowKit
attribute [local irreducible] Go.Calls Go.Exit.then Go.Exit.inBlock Go.bodyPost Go.Code.wp Go.wpList

abbrev u8o (A : Option Addr) (c : Nat) (bs : List Int) : Fa := own 5 1 A bs.length c (bytes bs)
abbrev wrb (b : Nat) (A : Option Addr) (n c : Nat) : Fa := blk b 94 [.slice A n c]
theorem vw_len {K : List Fa} {X : Option Addr} {m : Nat} {xs : List Int} (hr : Vw K (fun w => Reads w 1 X m (bytes xs))) : ∀ w, Sep w K → xs.length = m := fun w hw => by
  have := (hr w hw).1
  simpa [bytes] using this
theorem bytes_app (a b : List Int) : bytes (a ++ b) = bytes a ++ bytes b := by simp [bytes]

theorem nth_Pw {φ : Prop} (h : φ := by (first | rfl | rfl)) : φ := h
theorem mid_Pw {φ : Prop} (h : φ := by (first | exact Mid.all | exact Mid.all | exact Mid.head)) : φ := h
theorem sz_Pw {φ : Prop} (h : φ := by (first | rfl | (rfl; first | done | fail))) : φ := h
theorem one_Pw {φ : Prop} (h : φ := by (first | assumption | exact one_bytes _ | (simp only [List.mem_cons, List.not_mem_nil, or_false, forall_eq_or_imp, forall_eq]; decide) | exact one_bytes _)) : φ := h
theorem set_Pw {φ : Prop} (h : φ := by (first | (fail) | ((repeat (first | exact SetAt.here | apply SetAt.there)); first | done | fail))) : φ := h
theorem cl_Pw {φ : Prop} (h : φ := by first | rfl | exact .t | exact .f | exact .t (by omega) | exact .f (by omega) | exact .u | exact .i (by (first | exact .t (by omega) | exact .f (by omega) | exact .u | exact .i (by omega) | exact .v (by omega) | exact .b (by omega) | exact .w | rfl | omega)) | exact .v (by omega) | exact .b (by omega) | exact .q (by omega) | exact .w | exact .b (by exact at_) rfl (by exact nth_Pw) | exact .w (by exact at_) rfl rfl (by exact sz_Pw) | exact .s (by exact at_) (by exact mid_Pw) rfl rfl (by exact sz_Pw) | exact .z rfl rfl ⟨by kernel_rfl⟩ | exact .b rfl rfl ⟨by kernel_rfl⟩ | exact .a rfl rfl ⟨by kernel_rfl⟩ | exact .o rfl | exact .s | exact .n | exact .p rfl | exact .q rfl | exact .c rfl | exact .d rfl | exact .n rfl rfl (by omega) | exact .a rfl rfl (by omega) | exact .p rfl rfl (by omega) (by omega) | exact .y rfl rfl (by omega) (by omega) | exact .o (by exact at_) (by omega) rfl (by exact nth_Pw) | exact .m (by exact at_) (by omega) (by exact mid_Pw) rfl rfl (by exact sz_Pw) | exact .mlen (by exact at_) rfl | exact .t (by exact at_) rfl rfl (by first | exact True.intro | rfl) (by assumption) | exact .f (by exact at_) rfl rfl (by first | exact True.intro | rfl) (by assumption) rfl | exact .t1 (by exact at_) rfl rfl (by first | exact True.intro | rfl) (by assumption) | exact .f1 (by exact at_) rfl rfl (by first | exact True.intro | rfl) (by assumption) rfl | exact .r rfl rfl (by omega) (by omega) (by exact nth_Pw) rfl | exact .s rfl (by omega) (by assumption) | exact at_ | assumption | exact .r rfl rfl | exact .h rfl rfl rfl (by omega) | exact .l rfl rfl rfl (by omega) (by omega) | exact .g rfl rfl rfl rfl (by omega) (by omega) | exact .h rfl rfl (toN_ (by omega)) (by omega) | exact .l rfl rfl (toN_ (by omega)) (by omega) (by omega) | exact .g rfl rfl (toN_ (by omega)) (toN_ (by omega)) (by omega) (by omega) | exact .o (by decide) | exact .f (by decide) | exact .n (by omega) (by first | decide | (show _ ≤ ((64 : Nat) : Int); omega)) | (constructor; (repeat (first | exact .t (by omega) | exact .f (by omega) | exact .u | exact .i (by omega) | exact .v (by omega) | exact .b (by omega) | exact .w | rfl | omega)); first | done | fail) | omega | (show _ ≤ ((64 : Nat) : Int); omega)) : φ := h
theorem pv_Pw {φ : Prop} (h : φ := by constructor; (repeat exact cl_Pw); first | done | fail) : φ := h
theorem su_Pw {φ ψ : Prop} (k : ψ) (h : Hide ψ → φ := by (intro k; (first | refine sl_pu (PuI.sep (by exact pv_Pw)) rfl ?_ | refine sl_yes rfl rfl ?_ | refine sl_no rfl rfl rfl ?_ | refine sl_off rfl rfl rfl ?_ | (fail)); exact k.out)) : φ := h ⟨k⟩
theorem rq_Pw {φ ψ : Prop} (k : ψ) (h : Hide ψ → φ := by (intro k; (first | refine wq_pu (PuI.sep (by exact pv_Pw)) rfl ?_ | refine wq_yes rfl rfl ?_ | refine wq_no rfl rfl rfl ?_ | refine wq_off rfl rfl rfl ?_ | (fail)); exact k.out)) : φ := h ⟨k⟩
theorem sto_Pw {φ ψ : Prop} (k : ψ) (h : Hide ψ → φ := by (intro k; (first | refine sl_store rfl (by exact pick_) rfl rfl (by kernel_rfl) (by exact set_Pw) ?_ | refine sl_store_whole rfl (by exact pick_) rfl (by exact sz_Pw) (by exact sz_Pw) (by exact one_Pw) ?_); exact k.out)) : φ := h ⟨k⟩
theorem go_Pw {φ ψ : Prop} (k : ψ) (h : Hide ψ → φ := by (intro k; (repeat (first | refine su_Pw ?_ | refine so_ ?_ | refine sto_Pw ?_)); exact k.out)) : φ := h ⟨k⟩
set_option maxRecDepth 100000 in
theorem wRaw {K : List Fa} {b c m cap : Nat} {A X : Option Addr} {bs xs : List Int} (hr : Vw K (fun w => Reads w 1 X m (bytes xs))) (hm : bs.length + m ≤ 70368744177664) :
    Fn Try.prog 46 #[.pointer (some ⟨b, 0, none⟩), .slice X m cap] (wrb b A bs.length c :: u8o A c bs :: K) (Ret (fun _ : Option Addr × Nat => True) (fun _ => .tuple #[]) (fun p => wrb b p.1 (bs ++ xs).length p.2 :: u8o p.1 p.2 (bs ++ xs) :: K)) := by
  refine fn_know (fun w hw => vw_len hr w hw.tl.tl) ?_
  intro hx
  refine fn_enter Try.func46 rfl _ Try.ntmps46 (by simp) [(0, .pointer (some ⟨b, 0, none⟩)), (1, .slice X m cap)] (args_of (by simp)) ?_
  refine go_Pw ?_
  refine sl_app rfl (by exact pick_) rfl (hr.mono (by exact sub_)) (one_bytes _) rfl Try.info5 (by decide) (by decide) rfl (by unfold maxLen; omega) (by omega) ?_
  intro A' c'
  refine go_Pw ?_
  refine se_end0 (A', c') trivial rfl rfl ?_
  dsimp only
  unfold u8o wrb
  rw [List.length_append, hx, bytes_app]
  exact sub_

theorem min_max8 {k : Nat} (hk : k ≤ 8) : (if (8 : Int) < (if (k : Int) < 0 then 0 else (k : Int)) then 8 else (if (k : Int) < 0 then 0 else (k : Int))) = (k : Int) := by
  split <;> split <;> omega
structure Wg where
  j : Nat
  A : Option Addr
  c : Nat
set_option maxRecDepth 100000 in
theorem wUint {K : List Fa} {b c : Nat} {A : Option Addr} {bs : List Int} {n : Int} {k : Nat} (hk : k ≤ 8) (h0 : 0 ≤ n) (h1 : n ≤ 18446744073709551615) (hm : bs.length + 8 ≤ 70368744177664) :
    Fn Try.prog 47 #[.pointer (some ⟨b, 0, none⟩), .int .u64 n, .int .i64 k] (wrb b A bs.length c :: u8o A c bs :: K) (Ret (fun _ : Option Addr × Nat => True) (fun _ => .tuple #[]) (fun p => wrb b p.1 (bs ++ le n k).length p.2 :: u8o p.1 p.2 (bs ++ le n k) :: K)) := by
  refine fn_enter Try.func47 rfl _ Try.ntmps47 (by simp) [(0, .pointer (some ⟨b, 0, none⟩)), (1, .int .u64 n), (2, .int .i64 k)] (args_of (by simp)) ?_
  have hmm := min_max8 hk
  refine go_Pw ?_
  refine sc_for (fun g : Wg => [(0, .pointer (some ⟨b, 0, none⟩)), (1, .int .u64 n), (9, .int .i64 k), (10, .int .i64 g.j)]) (fun g => wrb b g.A (bs ++ le n g.j).length g.c :: u8o g.A g.c (bs ++ le n g.j) :: K) (fun g => g.j ≤ k) (fun g => k - g.j) ⟨0, A, c⟩ (by first | exact has_ | (rw [hmm]; exact has_)) (by simp only [le, List.range_zero, List.map_nil, List.append_nil]; exact Sub.refl) (Nat.zero_le _) ?_
  rintro ⟨j, A1, c1⟩ hj
  dsimp only at hj ⊢
  by_cases hlt : j < k
  · refine go_Pw ?_
    rw [IntKind.wrap_u8, show (8 * (j : Int)).toNat = 8 * j from by omega]
    refine sl_build (size := 1) (e := 5) (cells := bytes [n / 2 ^ (8 * j) % 256]) rfl (fun W => by kernel_rfl) rfl (by decide) rfl ?_
    intro gv
    refine sl_call rfl rfl (by kernel_rfl) rfl (by exact sub_) (wRaw (xs := [n / 2 ^ (8 * j) % 256]) (Vw.of_own (A := some ⟨gv, 0, none⟩) (c := 1) (e := 5) .here) (by simp [le_len]; omega)) ?_
    rintro ⟨A2, c2⟩ -
    refine go_Pw ?_
    refine se_round ⟨j + 1, A2, c2⟩ (by exact has_) ?_ hlt (by dsimp only; omega)
    dsimp only
    rw [le_succ, ← List.append_assoc]
    exact sub_
  · refine go_Pw ?_
    obtain rfl : j = k := by omega
    exact se_end0 (A1, c1) trivial rfl rfl (by exact sub_)
set_option maxRecDepth 100000 in
theorem wBytes {K : List Fa} {b c : Nat} {A : Option Addr} {bs : List Int} (hm : bs.length ≤ 70368744177664) :
    Fn Try.prog 48 #[.pointer (some ⟨b, 0, none⟩)] (wrb b A bs.length c :: u8o A c bs :: K) (Ret (fun _ : Option Addr × Nat => True) (fun p => .slice p.1 bs.length p.2) (fun p => u8o p.1 p.2 bs :: wrb b A bs.length c :: u8o A c bs :: K)) := by
  refine fn_enter Try.func48 rfl _ Try.ntmps48 (by simp) [(0, .pointer (some ⟨b, 0, none⟩))] (args_of (by simp)) ?_
  refine go_Pw ?_
  refine sl_build0 (e := 5) (size := 1) rfl (fun W => by kernel_rfl) rfl ?_
  intro g0
  refine go_Pw ?_
  refine sl_app rfl (by exact pick_) rfl (Vw.of_own (c := c) (e := 5) (by exact at_)) (one_bytes _) rfl Try.info5 (by decide) (by decide) rfl (by unfold maxLen; omega) (by omega) ?_
  intro A' c'
  rw [Nat.zero_add, List.nil_append]
  refine go_Pw ?_
  exact se_ret1 (A', c') trivial rfl rfl (by exact sub_)

/-! The reference's. -/
theorem lt_of_le8 {k : Nat} (hk : k ≤ 8) {j : Nat} (h : j < k) : (j : Int) < 8 := by omega
theorem div_div256 (n : Int) (j : Nat) : n / 2 ^ (8 * j) / 256 = n / 2 ^ (8 * (j + 1)) := by
  rw [Int.ediv_ediv_of_nonneg (Int.le_of_lt (Int.pow_pos (by decide))), show (256 : Int) = 2 ^ 8 from by decide, ← Int.pow_add, Nat.mul_succ]
theorem div_rng {n : Int} (h0 : 0 ≤ n) (h1 : n ≤ 18446744073709551615) (j : Nat) : 0 ≤ n / 2 ^ (8 * j) ∧ n / 2 ^ (8 * j) ≤ 18446744073709551615 :=
  ⟨Int.ediv_nonneg h0 (Int.le_of_lt (Int.pow_pos (by decide))), Int.le_trans (Int.ediv_le_self _ h0) h1⟩
set_option maxRecDepth 100000 in
theorem refUint {K : List Fa} {n : Int} {k : Nat} (hk : k ≤ 8) (h0 : 0 ≤ n) (h1 : n ≤ 18446744073709551615) :
    Fn Try.prog 40 #[.int .u64 n, .int .i64 k] K (Ret (fun _ : Option Addr × Nat => True) (fun p => .slice p.1 k p.2) (fun p => own 5 1 p.1 k p.2 (bytes (le n k)) :: K)) := by
  refine fn_enter Try.func40 rfl _ Try.ntmps40 (by simp) [(0, .int .u64 n), (1, .int .i64 k)] (args_of (by simp)) ?_
  refine go_Pw ?_
  refine sc_bjoin (fun g : Wg => [(5, .slice g.A k g.c)]) (fun g => own 5 1 g.A k g.c (bytes (le n k)) :: K) (fun _ => True) ?_ ?_
  · refine sc_for (fun g : Wg => [(0, .int .u64 (n / 2 ^ (8 * g.j))), (1, .int .i64 k), (5, .slice g.A g.j g.c), (6, .int .i64 g.j)]) (fun g => own 5 1 g.A g.j g.c (bytes (le n g.j)) :: K) (fun g => g.j ≤ k) (fun g => k - g.j) ⟨0, none, 0⟩ (by simp only [Nat.mul_zero, Int.pow_zero, Int.ediv_one]; exact has_) (by simp only [le, List.range_zero, List.map_nil, bytes]; exact Sub.own_nil Sub.refl) (Nat.zero_le _) ?_
    rintro ⟨j, A, c⟩ hj
    dsimp only at hj ⊢
    have hr := div_rng h0 h1 j
    have hd := div_div256 n j
    have hle : (le n (j + 1)) = le n j ++ [n / 2 ^ (8 * j) % 256] := le_succ n j
    generalize n / 2 ^ (8 * j) = q at *
    by_cases hlt : j < k
    · have h8 := lt_of_le8 hk hlt
      refine go_Pw ?_
      refine sl_build (size := 1) (e := 5) (cells := bytes [q % 256]) rfl (fun W => by kernel_rfl) rfl (by decide) rfl ?_
      intro gv
      refine sl_app rfl (by exact pick_) rfl (Vw.of_own (A := some ⟨gv, 0, none⟩) (c := 1) (e := 5) (by exact at_)) (one_bytes _) rfl Try.info5 (by decide) (by decide) rfl (by unfold maxLen; omega) (by omega) ?_
      intro A2 c2
      rw [← bytes_app, ← hle]
      refine go_Pw ?_
      refine se_round ⟨j + 1, A2, c2⟩ ?_ (by dsimp only; exact sub_) hlt (by dsimp only; omega)
      dsimp only
      rw [← hd]
      exact has_
    · obtain rfl : j = k := by omega
      refine go_Pw ?_
      exact se_mid ⟨j, A, c⟩ (by exact has_) (by exact sub_) trivial
  rintro ⟨j, A, c⟩ -
  dsimp only
  refine go_Pw ?_
  exact se_ret1 (A, c) trivial rfl rfl (by exact sub_)
end Go.Proofs.Ytemhhhikopemmaa
/- A disk in memory; its smallest functions. -/
namespace Go.Proofs.Ytemhhhikopemmaa
open Go.RowKit Go.MapKept
attribute [local irreducible] Go.Calls Go.Exit.then Go.Exit.inBlock Go.bodyPost Go.Code.wp Go.wpList
/-- A file on a disk: its name, where its bytes lie, its bytes, how many are synced; the number at which it came in. -/
structure DF where
  s : ByteArray
  A : Option Addr
  c : Nat
  l : List Int
  sy : Nat
  bn : Nat
def DF.val (f : DF) : Value := .agg #[.slice f.A f.l.length f.c, .int .i64 f.sy]
def DF.ent (f : DF) : MapEntry := ⟨.string f.s, f.val, f.bn⟩
abbrev DF.fa (f : DF) : Fa := u8o f.A f.c f.l
def DF.ok (f : DF) : Prop := f.sy ≤ f.l.length ∧ IsBytes f.l
abbrev dB (g m : Nat) (lim : Int) : Fa := blk g 86 [.map (some m), .int .i64 lim]
abbrev dM (m : Nat) (fs : List DF) (ck : Nat) : Fa := mp m .string (fs.map DF.ent) ck
abbrev dS (fs : List DF) : Fa := star (fs.map DF.fa)
def DHas (fs : List DF) (s : ByteArray) : Prop := ∃ f ∈ fs, f.s = s
theorem dget {fs : List DF} {f : DF} (h : f ∈ fs) : MGet (fs.map DF.ent) (.string f.s) f.val := ⟨f.ent, List.mem_map.2 ⟨f, h, rfl⟩, rfl, rfl⟩
theorem dno {fs : List DF} {s : ByteArray} (h : ¬ DHas fs s) : MNo (fs.map DF.ent) (.string s) := fun e he hk => by
  obtain ⟨f, hf, rfl⟩ := List.mem_map.1 he
  have hk' : Value.string f.s = .string s := hk
  injection hk' with hk'
  exact h ⟨f, hf, hk'⟩
def fz : List Value := [.slice none 0 0, .int .i64 0]
theorem star_get {f : Fa} {G L : List Fa} (h : At (star G) L) (hf : f ∈ G) : Vw L f.P := fun w hw => by
  have h1 := hw.at h
  unfold star at h1
  exact h1.mem hf
theorem star_pull {A B K : List Fa} {f : Fa} : Ent_ (star (A ++ f :: B) :: K) (f :: star (A ++ B) :: K) := fun w hw => by
  have h1 := star_out w hw
  rw [List.append_assoc, List.cons_append] at h1
  have h2 := (pick_mid A).out w h1
  rw [← List.append_assoc] at h2
  exact Ent_.tail star_in (fun k hk => by
    rcases foot_cons.1 hk with e | e
    · unfold star at e
      obtain ⟨y, hy, hk⟩ := e
      exact ⟨y, List.mem_append_left _ hy, hk⟩
    · obtain ⟨y, hy, hk⟩ := e
      exact ⟨y, List.mem_append_right _ hy, hk⟩) w h2
theorem star_push {A B K : List Fa} {f : Fa} : Ent_ (f :: star (A ++ B) :: K) (star (A ++ f :: B) :: K) := fun w hw => by
  refine star_in w ?_
  rw [List.append_assoc, List.cons_append]
  refine (pick_mid A).back w ?_
  rw [← List.append_assoc]
  exact Ent_.tail star_out (fun k hk => by
    obtain ⟨y, hy, hk⟩ := hk
    rcases List.mem_append.1 hy with e | e
    · exact foot_cons.2 (.inl (by unfold star; exact ⟨y, e, hk⟩))
    · exact foot_cons.2 (.inr ⟨y, e, hk⟩)) w hw
/-- What a name is made of. -/
def chB (c : UInt8) : Bool := (97 ≤ c && c ≤ 122) || (48 ≤ c && c ≤ 57) || c == 46 || c == 45
def nameB (s : ByteArray) : Bool := decide (1 ≤ s.size ∧ s.size ≤ 16) && s.data.toList.all chB
theorem str_at {s : ByteArray} {i : Nat} (h : i < s.size) : s[((i : Nat) : Int).toNat]? = some s[i] := by
  rw [Int.toNat_natCast]
  exact getElem?_pos s i h
set_option maxRecDepth 100000 in
theorem ch_cases (c : UInt8) : (c.toNat < 45 ∧ chB c = false) ∨ (c.toNat = 45 ∧ chB c = true) ∨ (c.toNat = 46 ∧ chB c = true) ∨ (c.toNat = 47 ∧ chB c = false) ∨ ((48 ≤ c.toNat ∧ c.toNat ≤ 57) ∧ chB c = true) ∨ ((58 ≤ c.toNat ∧ c.toNat ≤ 96) ∧ chB c = false) ∨ ((97 ≤ c.toNat ∧ c.toNat ≤ 122) ∧ chB c = true) ∨ (123 ≤ c.toNat ∧ chB c = false) := by
  have h : c.toNat < 256 := c.toNat_lt
  obtain ⟨n, hn⟩ : ∃ n, c.toNat = n := ⟨_, rfl⟩
  have hc : c = UInt8.ofNat n := by rw [← hn]; simp
  rw [hn] at h ⊢
  subst hc
  clear hn
  revert n
  decide
theorem all_snoc {s : ByteArray} {i : Nat} (h : i < s.size) : (s.data.toList.take (i + 1)).all chB = ((s.data.toList.take i).all chB && chB s[i]) := by
  rw [List.take_succ_eq_append_getElem (by simpa using h), List.all_append]
  simp
  rfl
theorem all_not {s : ByteArray} {i : Nat} (h : i < s.size) (hc : chB s[i] = false) : s.data.toList.all chB = false := by
  rw [Bool.eq_false_iff]
  intro ha
  rw [List.all_eq_true] at ha
  have := ha s[i] (by
    have : s[i] ∈ s.data := Array.getElem_mem _
    simpa using this)
  rw [hc] at this
  cases this
theorem nth_Dk {φ : Prop} (h : φ := by (first | rfl | rfl)) : φ := h
theorem mid_Dk {φ : Prop} (h : φ := by (first | exact Mid.all | exact Mid.all | exact Mid.head)) : φ := h
theorem sz_Dk {φ : Prop} (h : φ := by (first | rfl | (rfl; first | done | fail))) : φ := h
theorem one_Dk {φ : Prop} (h : φ := by (first | assumption | exact first | exact one_bytes _ | (simp only [List.mem_cons, List.not_mem_nil, or_false, forall_eq_or_imp, forall_eq]; decide) | exact one_bytes _)) : φ := h
theorem set_Dk {φ : Prop} (h : φ := by (first | (fail) | ((repeat (first | exact SetAt.here | apply SetAt.there)); first | done | fail))) : φ := h
theorem cl_Dk {φ : Prop} (h : φ := by first | rfl | exact .t | exact .f | exact .t (by omega) | exact .f (by omega) | exact .u | exact .i (by (first | exact .t (by omega) | exact .f (by omega) | exact .u | exact .i (by omega) | exact .v (by omega) | exact .b (by omega) | exact .w | rfl | omega)) | exact .v (by omega) | exact .b (by omega) | exact .q (by omega) | exact .w | exact .b (by exact at_) rfl (by exact nth_Dk) | exact .w (by exact at_) rfl rfl (by exact sz_Dk) | exact .s (by exact at_) (by exact mid_Dk) rfl rfl (by exact sz_Dk) | exact .z rfl rfl ⟨by kernel_rfl⟩ | exact .b rfl rfl ⟨by kernel_rfl⟩ | exact .a rfl rfl ⟨by kernel_rfl⟩ | exact .o rfl | exact .s | exact .n | exact .p rfl | exact .q rfl | exact .c rfl | exact .d rfl | exact .n rfl rfl (by omega) | exact .a rfl rfl (by omega) | exact .p rfl rfl (by omega) (by omega) | exact .y rfl rfl (by omega) (by omega) | exact .o (by exact at_) (by omega) rfl (by exact nth_Dk) | exact .m (by exact at_) (by omega) (by exact mid_Dk) rfl rfl (by exact sz_Dk) | exact .mlen (by exact at_) rfl | exact .t (by exact at_) rfl rfl (by first | exact True.intro | rfl) (by assumption) | exact .f (by exact at_) rfl rfl (by first | exact True.intro | rfl) (by assumption) rfl | exact .t1 (by exact at_) rfl rfl (by first | exact True.intro | rfl) (by assumption) | exact .f1 (by exact at_) rfl rfl (by first | exact True.intro | rfl) (by assumption) rfl | exact .r rfl rfl (by omega) (by omega) (by exact nth_Dk) rfl | exact .s rfl (by omega) (by assumption) | exact at_ | assumption | exact .r rfl rfl | exact .h rfl rfl rfl (by omega) | exact .l rfl rfl rfl (by omega) (by omega) | exact .g rfl rfl rfl rfl (by omega) (by omega) | exact .h rfl rfl (toN_ (by omega)) (by omega) | exact .l rfl rfl (toN_ (by omega)) (by omega) (by omega) | exact .g rfl rfl (toN_ (by omega)) (toN_ (by omega)) (by omega) (by omega) | exact .o (by decide) | exact .f (by decide) | exact .n (by omega) (by first | decide | (show _ ≤ ((64 : Nat) : Int); omega)) | (constructor; (repeat (first | exact .t (by omega) | exact .f (by omega) | exact .u | exact .i (by omega) | exact .v (by omega) | exact .b (by omega) | exact .w | rfl | omega)); first | done | fail) | omega | (show _ ≤ ((64 : Nat) : Int); omega)) : φ := h
theorem pv_Dk {φ : Prop} (h : φ := by constructor; (repeat exact cl_Dk); first | done | fail) : φ := h
theorem su_Dk {φ ψ : Prop} (k : ψ) (h : Hide ψ → φ := by (intro k; (first | refine sl_pu (PuI.sep (by exact pv_Dk)) rfl ?_ | refine sl_yes rfl rfl ?_ | refine sl_no rfl rfl rfl ?_ | refine sl_off rfl rfl rfl ?_ | (fail)); exact k.out)) : φ := h ⟨k⟩
theorem rq_Dk {φ ψ : Prop} (k : ψ) (h : Hide ψ → φ := by (intro k; (first | refine wq_pu (PuI.sep (by exact pv_Dk)) rfl ?_ | refine wq_yes rfl rfl ?_ | refine wq_no rfl rfl rfl ?_ | refine wq_off rfl rfl rfl ?_ | (fail)); exact k.out)) : φ := h ⟨k⟩
theorem sto_Dk {φ ψ : Prop} (k : ψ) (h : Hide ψ → φ := by (intro k; (first | refine sl_store rfl (by exact pick_) rfl rfl (by kernel_rfl) (by exact set_Dk) ?_ | refine sl_store_whole rfl (by exact pick_) rfl (by exact sz_Dk) (by exact sz_Dk) (by exact one_Dk) ?_); exact k.out)) : φ := h ⟨k⟩
theorem go_Dk {φ ψ : Prop} (k : ψ) (h : Hide ψ → φ := by (intro k; (repeat (first | refine su_Dk ?_ | refine so_ ?_ | refine sto_Dk ?_)); exact k.out)) : φ := h ⟨k⟩
set_option maxRecDepth 100000 in
set_option maxHeartbeats 2000000 in
theorem named_ok {K : List Fa} {s : ByteArray} (hs : s.size ≤ 9223372036854775807) :
    Fn Try.prog 34 #[.string s] K (Ret (fun _ : Unit => True) (fun _ => .bool (nameB s)) (fun _ => K)) := by
  refine fn_enter Try.func34 rfl _ Try.ntmps34 (by simp) [(0, .string s)] (args_of (by simp)) ?_
  refine go_Dk ?_
  refine sc_for (fun i : Nat => [(0, .string s), (6, .int .i64 s.size), (7, .int .i64 i)]) (fun _ => K) (fun i => i ≤ s.size ∧ (s.data.toList.take i).all chB = true) (fun i => s.size - i) 0 (by exact has_) (by exact sub_) ⟨Nat.zero_le _, rfl⟩ ?_
  rintro i ⟨hi, hall⟩
  by_cases hlt : i < s.size
  · have hn := str_at hlt
    have hsn := all_snoc hlt
    have hno := all_not hlt
    have hc := ch_cases s[i]
    generalize s[i] = ch at hn hsn hno hc
    rcases hc with ⟨h1, h2⟩ | ⟨h1, h2⟩ | ⟨h1, h2⟩ | ⟨h1, h2⟩ | ⟨⟨h0, h1⟩, h2⟩ | ⟨⟨h0, h1⟩, h2⟩ | ⟨⟨h0, h1⟩, h2⟩ | ⟨h1, h2⟩
    all_goals
      refine go_Dk ?_
      first
        | exact se_round (i + 1) (by exact has_) (by exact sub_) ⟨hlt, by rw [hsn, hall, h2]; rfl⟩ (by omega)
        | (rw [show nameB s = false from by unfold nameB; rw [hno h2, Bool.and_false]]; exact se_ret1 () trivial rfl rfl (by exact sub_))
  · obtain rfl : i = s.size := by omega
    rw [List.take_of_length_le (by simp)] at hall
    rw [show nameB s = decide (1 ≤ s.size ∧ s.size ≤ 16) from by unfold nameB; rw [hall, Bool.and_true]]
    by_cases h1 : s.size < 1
    · rw [decide_eq_false (by omega)]
      refine go_Dk ?_
      exact se_ret1 () trivial rfl rfl (by exact sub_)
    by_cases h2 : 16 < s.size
    · rw [decide_eq_false (by omega)]
      refine go_Dk ?_
      exact se_ret1 () trivial rfl rfl (by exact sub_)
    rw [decide_eq_true (by omega)]
    refine go_Dk ?_
    exact se_ret1 () trivial rfl rfl (by exact sub_)
end Go.Proofs.Ytemhhhikopemmaa
/- pack.Reader over facts. -/
namespace Go.Proofs.Ytemhhhikopemmaa
open Go.RowKit
attribute [local irreducible] Go.Calls Go.Exit.then Go.Exit.inBlock Go.bodyPost Go.Code.wp Go.wpList

abbrev rdb (r : Nat) (A : Option Addr) (n c : Nat) : Fa := blk r 111 [.slice A n c, .bool true]
/-- What is left to read. -/
structure Rd (Z : List Fa) (A : Option Addr) (n c : Nat) (rest : List Int) : Prop where
  vw : Vw Z (fun w => Reads w 1 A n (bytes rest))
  le : n ≤ c
  big : n ≤ 70368744177664
  cb : c ≤ maxLen
  len : rest.length = n
  okb : IsBytes rest
theorem Rd.next {Z : List Fa} {A : Option Addr} {n c : Nat} {rest : List Int} (h : Rd Z A n c rest) {k : Nat} (hk : k ≤ n) : Rd Z (cutA A c k 1) (n - k) (c - k) (rest.drop k) := by
  have hl := h.le
  refine ⟨fun w hw => ?_, by omega, by have := h.big; omega, by have := h.cb; omega, by rw [List.length_drop, h.len], h.okb.drop k⟩
  have h1 := (h.vw w hw).cut (k := k) (cap := c) hk h.le
  have h2 : (bytes rest).drop (k * 1) = bytes (rest.drop k) := by rw [Nat.mul_one]; simp [bytes]
  rw [h2] at h1
  exact h1
structure Rg where
  A : Option Addr
  n : Nat
  c : Nat
abbrev Rg.ok (Z : List Fa) (rest : List Int) (q : Rg) : Prop := Rd Z q.A q.n q.c rest
def stopC (c : Int) : List PanicEntry := [{ v := stopV c, recovered := false }]
theorem rFail {K : List Fa} {r : Nat} {s : Value} {c : Int} (hc : (c == 0) = false) : Fn Try.prog 61 #[.pointer (some ⟨r, 0, none⟩), .int .i64 c] (blk r 111 [s, .bool true] :: K) (Pan (fun _ : Unit => True) (fun _ => stopC c) (fun _ => blk r 111 [s, .bool true] :: K)) := by
  unfold Fn
  intro w hw
  have hB := blk_at hw .here
  refine (Fail_stop (by simpa using hB) c hc).mono ?_
  rintro e w' ⟨rfl, rfl⟩
  exact ⟨(), trivial, rfl, hw⟩
theorem bytes_take (xs : List Int) (k : Nat) : (bytes xs).take (k * 1) = bytes (xs.take k) := by rw [Nat.mul_one]; simp [bytes]

theorem nth_Pr {φ : Prop} (h : φ := by (first | rfl | rfl)) : φ := h
theorem mid_Pr {φ : Prop} (h : φ := by (first | exact Mid.all | exact Mid.all | exact Mid.head)) : φ := h
theorem sz_Pr {φ : Prop} (h : φ := by (first | rfl | (first | (simp only [bytes_length, Id.len]; rfl) | (simp only [bytes_length, Id.len]); first | done | fail))) : φ := h
theorem one_Pr {φ : Prop} (h : φ := by (first | assumption | exact one_bytes _ | (simp only [List.mem_cons, List.not_mem_nil, or_false, forall_eq_or_imp, forall_eq]; decide) | exact one_bytes _)) : φ := h
theorem set_Pr {φ : Prop} (h : φ := by (first | (fail) | ((repeat (first | exact SetAt.here | apply SetAt.there)); first | done | fail))) : φ := h
theorem cl_Pr {φ : Prop} (h : φ := by first | rfl | exact .t | exact .f | exact .t (by omega) | exact .f (by omega) | exact .u | exact .i (by (first | exact .t (by omega) | exact .f (by omega) | exact .u | exact .i (by omega) | exact .v (by omega) | exact .b (by omega) | exact .w | rfl | omega)) | exact .v (by omega) | exact .b (by omega) | exact .q (by omega) | exact .w | exact .b (by exact at_) rfl (by exact nth_Pr) | exact .w (by exact at_) rfl rfl (by exact sz_Pr) | exact .s (by exact at_) (by exact mid_Pr) rfl rfl (by exact sz_Pr) | exact .z rfl rfl ⟨by kernel_rfl⟩ | exact .b rfl rfl ⟨by kernel_rfl⟩ | exact .a rfl rfl ⟨by kernel_rfl⟩ | exact .o rfl | exact .s | exact .n | exact .p rfl | exact .q rfl | exact .c rfl | exact .d rfl | exact .n rfl rfl (by omega) | exact .a rfl rfl (by omega) | exact .p rfl rfl (by omega) (by omega) | exact .y rfl rfl (by omega) (by omega) | exact .o (by exact at_) (by omega) rfl (by exact nth_Pr) | exact .m (by exact at_) (by omega) (by exact mid_Pr) rfl rfl (by exact sz_Pr) | exact .mlen (by exact at_) rfl | exact .t (by exact at_) rfl rfl (by first | exact True.intro | rfl) (by assumption) | exact .f (by exact at_) rfl rfl (by first | exact True.intro | rfl) (by assumption) rfl | exact .t1 (by exact at_) rfl rfl (by first | exact True.intro | rfl) (by assumption) | exact .f1 (by exact at_) rfl rfl (by first | exact True.intro | rfl) (by assumption) rfl | exact .r rfl rfl (by omega) (by omega) (by exact nth_Pr) rfl | exact .s rfl (by omega) (by assumption) | exact at_ | assumption | exact .r rfl rfl | exact .h rfl rfl rfl (by omega) | exact .l rfl rfl rfl (by omega) (by omega) | exact .g rfl rfl rfl rfl (by omega) (by omega) | exact .h rfl rfl (toN_ (by omega)) (by omega) | exact .l rfl rfl (toN_ (by omega)) (by omega) (by omega) | exact .g rfl rfl (toN_ (by omega)) (toN_ (by omega)) (by omega) (by omega) | exact .o (by decide) | exact .f (by decide) | exact .n (by omega) (by first | decide | (show _ ≤ ((64 : Nat) : Int); omega)) | (constructor; (repeat (first | exact .t (by omega) | exact .f (by omega) | exact .u | exact .i (by omega) | exact .v (by omega) | exact .b (by omega) | exact .w | rfl | omega)); first | done | fail) | omega | (show _ ≤ ((64 : Nat) : Int); omega)) : φ := h
theorem pv_Pr {φ : Prop} (h : φ := by constructor; (repeat exact cl_Pr); first | done | fail) : φ := h
theorem su_Pr {φ ψ : Prop} (k : ψ) (h : Hide ψ → φ := by (intro k; (first | refine sl_pu (PuI.sep (by exact pv_Pr)) rfl ?_ | refine sl_yes rfl rfl ?_ | refine sl_no rfl rfl rfl ?_ | refine sl_off rfl rfl rfl ?_ | (fail)); exact k.out)) : φ := h ⟨k⟩
theorem rq_Pr {φ ψ : Prop} (k : ψ) (h : Hide ψ → φ := by (intro k; (first | refine wq_pu (PuI.sep (by exact pv_Pr)) rfl ?_ | refine wq_yes rfl rfl ?_ | refine wq_no rfl rfl rfl ?_ | refine wq_off rfl rfl rfl ?_ | (fail)); exact k.out)) : φ := h ⟨k⟩
theorem sto_Pr {φ ψ : Prop} (k : ψ) (h : Hide ψ → φ := by (intro k; (first | refine sl_store rfl (by exact pick_) rfl rfl (by kernel_rfl) (by exact set_Pr) ?_ | refine sl_store_whole rfl (by exact pick_) rfl (by exact sz_Pr) (by exact sz_Pr) (by exact one_Pr) ?_); exact k.out)) : φ := h ⟨k⟩
theorem go_Pr {φ ψ : Prop} (k : ψ) (h : Hide ψ → φ := by (intro k; (repeat (first | refine su_Pr ?_ | refine so_ ?_ | refine sto_Pr ?_)); exact k.out)) : φ := h ⟨k⟩
set_option maxRecDepth 100000 in
theorem rRaw {K Z : List Fa} {r n c k : Nat} {A : Option Addr} {rest : List Int} (hz : Sub K Z) (h : Rd Z A n c rest) (hk : k ≤ n) :
    Fn Try.prog 54 #[.pointer (some ⟨r, 0, none⟩), .int .i64 k] (rdb r A n c :: K) (Ret (fun p : (Option Addr × Nat) × Rg => p.2.ok Z (rest.drop k)) (fun p => .slice p.1.1 k p.1.2) (fun p => own 5 1 p.1.1 k p.1.2 (bytes (rest.take k)) :: rdb r p.2.A p.2.n p.2.c :: K)) := by
  have hle := h.le
  have hbig := h.big
  refine fn_enter Try.func54 rfl _ Try.ntmps54 (by simp) [(0, .pointer (some ⟨r, 0, none⟩)), (1, .int .i64 k)] (args_of (by simp)) ?_
  refine go_Pr ?_
  refine sl_build0 (e := 5) (size := 1) rfl (fun W => by kernel_rfl) rfl ?_
  intro g0
  refine go_Pr ?_
  refine sl_app rfl (by exact pick_) rfl (Vw.imp (h.vw.mono (L' := _ :: _ :: K) (Sub.skip (Sub.skip hz))) (fun w h => h.take hk)) (by rw [bytes_take]; exact one_bytes _) rfl Try.info5 (by decide) (by decide) rfl (by unfold maxLen; omega) (by omega) ?_
  intro A' c'
  rw [Nat.zero_add, List.nil_append, bytes_take]
  refine go_Pr ?_
  exact se_ret1 ((A', c'), ⟨cutA A c k 1, n - k, c - k⟩) (h.next hk) rfl rfl (by exact sub_)
set_option maxRecDepth 100000 in
theorem rRaw_die {K : List Fa} {r n c : Nat} {k : Int} {A : Option Addr} (hk : k < 0 ∨ (n : Int) < k) :
    Fn Try.prog 54 #[.pointer (some ⟨r, 0, none⟩), .int .i64 k] (rdb r A n c :: K) (Pan (fun _ : Unit => True) (fun _ => stopC 3) (fun _ => rdb r A n c :: K)) := by
  refine fn_enter Try.func54 rfl _ Try.ntmps54 (by simp) [(0, .pointer (some ⟨r, 0, none⟩)), (1, .int .i64 k)] (args_of (by simp)) ?_
  by_cases h0 : k < 0
  · refine go_Pr ?_
    refine sl_die rfl rfl (by kernel_rfl) Sub.refl (rFail rfl) ?_
    rintro _ -
    refine go_Pr ?_
    exact se_panic () trivial (by exact sub_)
  · have h1 : (n : Int) < k := by omega
    refine go_Pr ?_
    refine sl_die rfl rfl (by kernel_rfl) Sub.refl (rFail rfl) ?_
    rintro _ -
    refine go_Pr ?_
    exact se_panic () trivial (by exact sub_)

set_option maxRecDepth 100000 in
theorem rUint {K Z : List Fa} {r n c k : Nat} {A : Option Addr} {rest : List Int} (hz : Sub K Z) (h : Rd Z A n c rest) (hk8 : k ≤ 8) (hk : k ≤ n) :
    Fn Try.prog 52 #[.pointer (some ⟨r, 0, none⟩), .int .i64 k] (rdb r A n c :: K) (Ret (fun p : Rg => p.ok Z (rest.drop k)) (fun _ => .int .u64 (leV (rest.take k))) (fun p => rdb r p.A p.n p.c :: K)) := by
  have htl : (rest.take k).length = k := by rw [List.length_take, h.len]; omega
  have htb : IsBytes (rest.take k) := h.okb.take k
  have hmm := min_max8 hk8
  refine fn_enter Try.func52 rfl _ Try.ntmps52 (by simp) [(0, .pointer (some ⟨r, 0, none⟩)), (1, .int .i64 k)] (args_of (by simp)) ?_
  repeat (first | rw [hmm] | (first | refine su_Pr ?_ | refine so_ ?_))
  refine sl_call rfl rfl (by kernel_rfl) rfl Sub.refl (rRaw hz h hk) ?_
  rintro ⟨⟨P, cp⟩, q⟩ hq
  dsimp only at hq ⊢
  generalize rest.take k = xs at *
  refine sl_know (fun w hw => (own_len (e := 5) (size := 1) (A := P) hw .here).2) ?_
  rintro ⟨hc1, hc2⟩
  refine go_Pr ?_
  refine sc_bjoin (fun _ : Unit => [(5, .int .u64 (leV xs))]) (fun _ => own 5 1 P k cp (bytes xs) :: rdb r q.A q.n q.c :: K) (fun _ => True) ?_ ?_
  · refine sc_for (fun j : Nat => [(5, .int .u64 (leV (xs.take j))), (12, .slice P k cp), (13, .int .i64 k), (14, .int .i64 j)]) (fun _ => own 5 1 P k cp (bytes xs) :: rdb r q.A q.n q.c :: K) (fun j => j ≤ k) (fun j => k - j) 0 (by exact has_) (by exact sub_) (Nat.zero_le _) ?_
    intro j hj
    by_cases hlt : j < k
    · have hxl : j < xs.length := by omega
      have hst := or_step htb j hxl (by omega)
      have hx0 := htb _ (List.getElem_mem hxl)
      refine sc_form (A := P) (by exact at_) (by omega) ?_
      rintro g rfl
      refine go_Pr ?_
      refine sl_pu (pu_ldr (v := .int .u8 xs[j]) (Vw.of_own (by exact at_)) (by omega) rfl rfl (by rw [nth_eq]; simp [bytes])) rfl ?_
      generalize xs[j] = x at *
      refine go_Pr ?_
      rw [show (8 * (j : Int)).toNat = 8 * j from by omega, hst]
      refine go_Pr ?_
      exact se_round (j + 1) (by exact has_) (by exact sub_) hlt (by omega)
    · obtain rfl : j = k := by omega
      have e : xs.take j = xs := by rw [← htl, List.take_length]
      rw [e]
      refine go_Pr ?_
      exact se_mid () (by exact has_) (by exact sub_) trivial
  rintro _ -
  refine go_Pr ?_
  exact se_ret1 q hq rfl rfl (by exact sub_)
set_option maxRecDepth 100000 in
theorem rUint_die {K : List Fa} {r n c k : Nat} {A : Option Addr} (hk8 : k ≤ 8) (hk : n < k) :
    Fn Try.prog 52 #[.pointer (some ⟨r, 0, none⟩), .int .i64 k] (rdb r A n c :: K) (Pan (fun _ : Unit => True) (fun _ => stopC 3) (fun _ => rdb r A n c :: K)) := by
  have hmm := min_max8 hk8
  refine fn_enter Try.func52 rfl _ Try.ntmps52 (by simp) [(0, .pointer (some ⟨r, 0, none⟩)), (1, .int .i64 k)] (args_of (by simp)) ?_
  repeat (first | rw [hmm] | (first | refine su_Pr ?_ | refine so_ ?_))
  refine sl_die rfl rfl (by kernel_rfl) Sub.refl (rRaw_die (.inr (by omega))) ?_
  rintro _ -
  refine go_Pr ?_
  exact se_panic () trivial (by exact sub_)

set_option maxRecDepth 100000 in
theorem rCount {K Z : List Fa} {r n c k : Nat} {A : Option Addr} {rest : List Int} {most : Int} (hz : Sub K Z) (h : Rd Z A n c rest) (hk8 : k ≤ 8) (hk : k ≤ n) (hm : leV (rest.take k) ≤ most) (hmb : most ≤ 9223372036854775807) :
    Fn Try.prog 53 #[.pointer (some ⟨r, 0, none⟩), .int .i64 k, .int .u64 most] (rdb r A n c :: K) (Ret (fun p : Rg => p.ok Z (rest.drop k)) (fun _ => .int .i64 (leV (rest.take k))) (fun p => rdb r p.A p.n p.c :: K)) := by
  have h0 := (leV_lt (h.okb.take k)).1
  refine fn_enter Try.func53 rfl _ Try.ntmps53 (by simp) [(0, .pointer (some ⟨r, 0, none⟩)), (1, .int .i64 k), (2, .int .u64 most)] (args_of (by simp)) ?_
  refine go_Pr ?_
  refine sl_call rfl rfl (by kernel_rfl) rfl Sub.refl (rUint hz h hk8 hk) ?_
  intro q hq
  generalize leV (rest.take k) = v at *
  refine go_Pr ?_
  exact se_ret1 q hq rfl rfl (by exact sub_)
set_option maxRecDepth 100000 in
theorem rCount_die {K : List Fa} {r n c k : Nat} {A : Option Addr} {most : Int} (hk8 : k ≤ 8) (hk : n < k) :
    Fn Try.prog 53 #[.pointer (some ⟨r, 0, none⟩), .int .i64 k, .int .u64 most] (rdb r A n c :: K) (Pan (fun _ : Unit => True) (fun _ => stopC 3) (fun _ => rdb r A n c :: K)) := by
  refine fn_enter Try.func53 rfl _ Try.ntmps53 (by simp) [(0, .pointer (some ⟨r, 0, none⟩)), (1, .int .i64 k), (2, .int .u64 most)] (args_of (by simp)) ?_
  refine go_Pr ?_
  refine sl_die rfl rfl (by kernel_rfl) Sub.refl (rUint_die hk8 hk) ?_
  rintro _ -
  refine go_Pr ?_
  exact se_panic () trivial (by exact sub_)
set_option maxRecDepth 100000 in
theorem rCount_range {K Z : List Fa} {r n c k : Nat} {A : Option Addr} {rest : List Int} {most : Int} (hz : Sub K Z) (h : Rd Z A n c rest) (hk8 : k ≤ 8) (hk : k ≤ n) (hm : most < leV (rest.take k)) :
    Fn Try.prog 53 #[.pointer (some ⟨r, 0, none⟩), .int .i64 k, .int .u64 most] (rdb r A n c :: K) (Pan (fun _ : Rg => True) (fun _ => stopC 6) (fun p => rdb r p.A p.n p.c :: K)) := by
  refine fn_enter Try.func53 rfl _ Try.ntmps53 (by simp) [(0, .pointer (some ⟨r, 0, none⟩)), (1, .int .i64 k), (2, .int .u64 most)] (args_of (by simp)) ?_
  refine go_Pr ?_
  refine sl_call rfl rfl (by kernel_rfl) rfl Sub.refl (rUint hz h hk8 hk) ?_
  intro q hq
  generalize leV (rest.take k) = v at *
  refine go_Pr ?_
  refine sl_die rfl rfl (by kernel_rfl) Sub.refl (rFail rfl) ?_
  rintro _ -
  refine go_Pr ?_
  exact se_panic q trivial (by exact sub_)

theorem max_0 {m : Nat} : (if (m : Int) < 0 then 0 else (m : Int)) = (m : Int) := by
  split <;> omega
theorem id16 (id : Id) (zs : List Value) (h : zs.length = 16) : zs.take 0 ++ bytes id.l ++ zs.drop (0 + (bytes id.l).length) = bytes id.l := by
  rw [List.take_zero, List.nil_append, List.drop_of_length_le (by rw [bytes_length, id.len]; omega), List.append_nil]
end Go.Proofs.Ytemhhhikopemmaa
