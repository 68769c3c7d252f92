/- Package script: Number, Unhex. -/
import Derived.Test.YtfnjeojaahnlfaaDoorWa
import Derived.Test.YtfnjeojaahnlfaaDoorAp
namespace Go.Proofs.YtfnjeojaahnlfaaDoor
open Go.RowKit
attribute [local irreducible] Go.Calls Go.Exit.then Go.Exit.inBlock Go.bodyPost Go.Code.wp Go.wpList
abbrev sOf (l : List UInt8) : ByteArray := ⟨l.toArray⟩
theorem sOf_size (l : List UInt8) : (sOf l).size = l.length := by simp [ByteArray.size]
theorem sOf_get {l : List UInt8} {j : Nat} {c : UInt8} (h : l[j]? = some c) : (sOf l)[j]? = some c := by
  obtain ⟨h1, rfl⟩ := List.getElem?_eq_some_iff.1 h
  have h2 : j < (sOf l).size := by rw [sOf_size]; exact h1
  rw [getElem?_pos (sOf l) j h2]
  rfl
theorem sOf_inj {a b : List UInt8} (h : sOf a = sOf b) : a = b := by
  have := congrArg (fun s => s.data.toList) h
  simpa using this
theorem sOf_eq (a b : List UInt8) : ((sOf a).toList == (sOf b).toList) = decide (a = b) := by
  rw [Lib.toList_data, Lib.toList_data]
  rw [Bool.eq_iff_iff]
  simp
theorem numGo_cons {c : UInt8} {r : List UInt8} {a : Nat} : numGo (c :: r) a = if c.toNat < 48 ∨ 57 < c.toNat then none else numGo r (a * 10 + (c.toNat - 48)) := rfl
theorem pow_18 {n j : Nat} (h : n < 10 ^ j) (hj : j ≤ 18) : n < 1000000000000000000 := by
  have h1 : (10 : Nat) ^ j ≤ 10 ^ 18 := Nat.pow_le_pow_right (by decide) hj
  have h2 : (10 : Nat) ^ 18 = 1000000000000000000 := rfl
  omega
theorem drop_get {l : List UInt8} {j : Nat} {c : UInt8} (h : l[j]? = some c) : l.drop j = c :: l.drop (j + 1) := by
  obtain ⟨h1, rfl⟩ := List.getElem?_eq_some_iff.1 h
  rw [List.drop_eq_getElem_cons h1]
theorem nth_Wb {φ : Prop} (h : φ := by (first | rfl | rfl)) : φ := h
theorem mid_Wb {φ : Prop} (h : φ := by (first | exact Mid.all | exact Mid.all | exact Mid.head)) : φ := h
theorem sz_Wb {φ : Prop} (h : φ := by (first | rfl | (rfl; first | done | fail))) : φ := h
theorem one_Wb {φ : Prop} (h : φ := by (first | assumption | exact one_bytes _ | (simp only [List.mem_cons, List.not_mem_nil, or_false, forall_eq_or_imp, forall_eq]; decide) | exact one_bytes _ | (intro v hv; (repeat (rcases List.mem_cons.1 hv with rfl | hv; rfl)); cases hv))) : φ := h
theorem set_Wb {φ : Prop} (h : φ := by (first | (fail) | ((repeat (first | exact SetAt.here | apply SetAt.there)); first | done | fail))) : φ := h
theorem cl_Wb {φ : Prop} (h : φ := by first | rfl | exact .t | exact .f | exact .t (by omega) | exact .f (by omega) | exact .u | exact .i (by (first | exact .t (by omega) | exact .f (by omega) | exact .u | exact .i (by omega) | exact .v (by omega) | exact .b (by omega) | exact .w | rfl | omega)) | exact .v (by omega) | exact .b (by omega) | exact .q (by omega) | exact .w | exact .b (by exact at_) rfl (by exact nth_Wb) | exact .w (by exact at_) rfl rfl (by exact sz_Wb) | exact .s (by exact at_) (by exact mid_Wb) rfl rfl (by exact sz_Wb) | exact .z rfl rfl ⟨by kernel_rfl⟩ | exact .b rfl rfl ⟨by kernel_rfl⟩ | exact .a rfl rfl ⟨by kernel_rfl⟩ | exact .o rfl | exact .s | exact .n | exact .p rfl | exact .q rfl | exact .c rfl | exact .d rfl | exact .n rfl rfl (by omega) | exact .a rfl rfl (by omega) | exact .p rfl rfl (by omega) (by omega) | exact .y rfl rfl (by omega) (by omega) | exact .o (by exact at_) (by omega) rfl (by exact nth_Wb) | exact .m (by exact at_) (by omega) (by exact mid_Wb) rfl rfl (by exact sz_Wb) | exact .mlen (by exact at_) rfl | exact .t (by exact at_) rfl rfl (by first | exact True.intro | rfl) (by assumption) | exact .f (by exact at_) rfl rfl (by first | exact True.intro | rfl) (by assumption) rfl | exact .t1 (by exact at_) rfl rfl (by first | exact True.intro | rfl) (by assumption) | exact .f1 (by exact at_) rfl rfl (by first | exact True.intro | rfl) (by assumption) rfl | exact .r rfl rfl (by omega) (by omega) (by exact nth_Wb) rfl | exact .s rfl (by omega) (by assumption) | exact at_ | assumption | exact .r rfl rfl | exact .h rfl rfl rfl (by omega) | exact .l rfl rfl rfl (by omega) (by omega) | exact .g rfl rfl rfl rfl (by omega) (by omega) | exact .h rfl rfl (toN_ (by omega)) (by omega) | exact .l rfl rfl (toN_ (by omega)) (by omega) (by omega) | exact .g rfl rfl (toN_ (by omega)) (toN_ (by omega)) (by omega) (by omega) | exact .o (by decide) | exact .f (by decide) | exact .n (by omega) (by first | decide | (show _ ≤ ((64 : Nat) : Int); omega)) | (constructor; (repeat (first | exact .t (by omega) | exact .f (by omega) | exact .u | exact .i (by omega) | exact .v (by omega) | exact .b (by omega) | exact .w | rfl | omega)); first | done | fail) | omega | (show _ ≤ ((64 : Nat) : Int); omega)) : φ := h
theorem pv_Wb {φ : Prop} (h : φ := by constructor; (repeat exact cl_Wb); first | done | fail) : φ := h
theorem su_Wb {φ ψ : Prop} (k : ψ) (h : Hide ψ → φ := by (intro k; (first | refine sl_pu (PuI.sep (by exact pv_Wb)) rfl ?_ | refine sl_yes rfl rfl ?_ | refine sl_no rfl rfl rfl ?_ | refine sl_off rfl rfl rfl ?_ | (fail)); exact k.out)) : φ := h ⟨k⟩
theorem rq_Wb {φ ψ : Prop} (k : ψ) (h : Hide ψ → φ := by (intro k; (first | refine wq_pu (PuI.sep (by exact pv_Wb)) rfl ?_ | refine wq_yes rfl rfl ?_ | refine wq_no rfl rfl rfl ?_ | refine wq_off rfl rfl rfl ?_ | (fail)); exact k.out)) : φ := h ⟨k⟩
theorem sto_Wb {φ ψ : Prop} (k : ψ) (h : Hide ψ → φ := by (intro k; (first | refine sl_store rfl (by exact pick_) rfl rfl (by kernel_rfl) (by exact set_Wb) ?_ | refine sl_store_whole rfl (by exact pick_) rfl (by exact sz_Wb) (by exact sz_Wb) (by exact one_Wb) ?_); exact k.out)) : φ := h ⟨k⟩
theorem go_Wb {φ ψ : Prop} (k : ψ) (h : Hide ψ → φ := by (intro k; (repeat (first | refine su_Wb ?_ | refine so_ ?_ | refine sto_Wb ?_)); exact k.out)) : φ := h ⟨k⟩
set_option maxRecDepth 100000 in
set_option maxHeartbeats 2000000 in
theorem number_ok {K : List Fa} (l : List UInt8) (hl : l.length ≤ 1048576) (most : Nat) (hm : most ≤ 18446744073709551615) :
    Fn Tryd.prog 8 #[.string (sOf l), .int .u64 most] K (Ret (fun _ : Unit => True) (fun _ => .tuple #[.int .u64 (numL l most).1, .bool (numL l most).2]) (fun _ => K)) := by
  have hz := sOf_size l
  refine fn_enter Tryd.func8 rfl _ Tryd.ntmps8 (by simp) [(0, .string (sOf l)), (1, .int .u64 most)] (args_of (by simp)) ?_
  by_cases h1 : l.length < 1
  · have hn : numL l most = (0, false) := by unfold numL; rw [if_pos (.inl h1)]
    rw [hn]
    refine go_Wb ?_
    exact se_ret2 () trivial rfl rfl rfl rfl (by exact sub_)
  by_cases h2 : 19 < l.length
  · have hn : numL l most = (0, false) := by unfold numL; rw [if_pos (.inr (.inl h2))]
    rw [hn]
    refine go_Wb ?_
    exact se_ret2 () trivial rfl rfl rfl rfl (by exact sub_)
  obtain ⟨c0, hc0⟩ : ∃ c0, l[0]? = some c0 := ⟨l[0]'(by omega), List.getElem?_eq_getElem (by omega)⟩
  have hs0 : (sOf l)[(0 : Int).toNat]? = some c0 := sOf_get hc0
  by_cases h3 : 1 < l.length ∧ c0.toNat = 48
  · obtain ⟨h31, h32⟩ := h3
    have hn : numL l most = (0, false) := by
      unfold numL
      have h5 : c0 = 48 := UInt8.toNat_inj.1 h32
      rw [if_pos (.inr (.inr ⟨h31, by rw [hc0, h5]⟩))]
    rw [hn]
    refine go_Wb ?_
    exact se_ret2 () trivial rfl rfl rfl rfl (by exact sub_)
  have hnum : numL l most = numR (numGo l 0) most := by
    unfold numL
    rw [if_neg (by
      rintro (h | h | ⟨h, h'⟩)
      · exact h1 h
      · exact h2 h
      · rw [hc0] at h'
        cases h'
        exact h3 ⟨h, rfl⟩)]
  rw [hnum]
  refine sc_seq ?_
  refine sc_region ?_
  repeat refine su_Wb ?_
  refine sl_nil ?_
  refine se_seq ?_
  refine sc_mid (α := Unit) (fun _ => [(0, .string (sOf l)), (1, .int .u64 most)]) (fun _ => K) (fun _ => True) ?_ ?_
  · by_cases h31 : 1 < l.length
    · have h32 : ¬ c0.toNat = 48 := fun e => h3 ⟨h31, e⟩
      refine go_Wb ?_
      exact se_mid () (by exact has_) (by exact sub_) trivial
    · refine go_Wb ?_
      exact se_mid () (by exact has_) (by exact sub_) trivial
  rintro _ -
  refine go_Wb ?_
  rw [hz]
  refine sc_for (fun p : Nat × Nat => [(0, .string (sOf l)), (1, .int .u64 most), (6, .int .u64 p.2), (27, .int .i64 l.length), (28, .int .i64 p.1)]) (fun _ => K) (fun p => p.1 ≤ l.length ∧ p.2 < 10 ^ p.1 ∧ numGo l 0 = numGo (l.drop p.1) p.2) (fun p => l.length - p.1) (0, 0) (by exact has_) Sub.refl ⟨Nat.zero_le _, by decide, rfl⟩ ?_
  rintro ⟨j, n⟩ ⟨hj, hn, hg⟩
  dsimp only at hj hn hg ⊢
  by_cases hlt : j < l.length
  · obtain ⟨c, hc⟩ : ∃ c, l[j]? = some c := ⟨l[j], List.getElem?_eq_getElem hlt⟩
    have hsj : (sOf l)[((j : Nat) : Int).toNat]? = some c := sOf_get hc
    have hc256 := c.toNat_lt
    rw [drop_get hc, numGo_cons] at hg
    have hn18 := pow_18 hn (by omega)
    by_cases d1 : c.toNat < 48
    · rw [if_pos (.inl d1)] at hg
      rw [hg]
      dsimp only [numR]
      refine go_Wb ?_
      exact se_ret2 () trivial rfl rfl rfl rfl (by exact sub_)
    by_cases d2 : 57 < c.toNat
    · rw [if_pos (.inr d2)] at hg
      rw [hg]
      dsimp only [numR]
      refine go_Wb ?_
      exact se_ret2 () trivial rfl rfl rfl rfl (by exact sub_)
    rw [if_neg (by omega)] at hg
    refine go_Wb ?_
    rw [show ((n : Int) * 10 + ((c.toNat : Int) - 48)) = ((n * 10 + (c.toNat - 48) : Nat) : Int) from by omega]
    refine se_round (j + 1, n * 10 + (c.toNat - 48)) (by exact has_) Sub.refl ⟨hlt, ?_, hg⟩ (by dsimp only; omega)
    dsimp only
    rw [Nat.pow_succ]
    omega
  · obtain rfl : j = l.length := by omega
    rw [List.drop_length] at hg
    rw [hg]
    dsimp only [numGo, numR]
    by_cases hmm : n ≤ most
    · rw [decide_eq_true hmm]
      refine go_Wb ?_
      exact se_ret2 () trivial rfl rfl rfl rfl (by exact sub_)
    · rw [decide_eq_false hmm]
      refine go_Wb ?_
      exact se_ret2 () trivial rfl rfl rfl rfl (by exact sub_)

/-! Unhex. -/
def digL : List UInt8 := [48, 49, 50, 51, 52, 53, 54, 55, 56, 57, 97, 98, 99, 100, 101, 102]
theorem digL_hx (c : UInt8) : Lib.indexByte digL c = hx c := by
  have h : ∀ n, n < 256 → Lib.indexByte digL (UInt8.ofNat n) = hx (UInt8.ofNat n) := by decide +kernel
  have := h c.toNat c.toNat_lt
  rwa [UInt8.ofNat_toNat] at this
theorem idx_row (c : UInt8) (w : World) : (callFunc 28 #[.string (sOf digL), .int .u8 c.toNat]).run Tryd.prog w = .ok (.value (.int .i64 (hx c))) w := by
  rw [run_callFunc_extern Tryd.func28 (by kernel_rfl) (by kernel_rfl) (by kernel_rfl) (e := Extern.BytealgIndexByte.indexByte) (by kernel_rfl), Lib.run_indexByteString]
  simp only [Result.andThen]
  rw [show ((c.toNat : Int).toNat.toUInt8) = c from by simp]
  rw [digL_hx]
set_option maxRecDepth 100000 in
theorem sIndexByte_ok {K : List Fa} (c : UInt8) : Fn Tryd.prog 19 #[.string (sOf digL), .int .u8 c.toNat] K (Ret (fun _ : Unit => True) (fun _ => .int .i64 (hx c)) (fun _ => K)) := by
  refine fn_enter Tryd.func19 rfl _ Tryd.ntmps19 (by simp) [(0, .string (sOf digL)), (1, .int .u8 c.toNat)] (args_of (by simp)) ?_
  refine go_Wb ?_
  refine sl_pu (pu_ext (cap := []) rfl rfl (fun W _ => idx_row c W)) rfl ?_
  refine go_Wb ?_
  exact se_ret1 () trivial rfl rfl (by exact sub_)
set_option maxRecDepth 100000 in
theorem indexByte_ok {K : List Fa} (c : UInt8) : Fn Tryd.prog 13 #[.string (sOf digL), .int .u8 c.toNat] K (Ret (fun _ : Unit => True) (fun _ => .int .i64 (hx c)) (fun _ => K)) := by
  refine fn_enter Tryd.func13 rfl _ Tryd.ntmps13 (by simp) [(0, .string (sOf digL)), (1, .int .u8 c.toNat)] (args_of (by simp)) ?_
  refine go_Wb ?_
  refine sl_call rfl rfl (by kernel_rfl) rfl (by exact sub_) (sIndexByte_ok c) ?_; rintro _ -
  refine go_Wb ?_
  exact se_ret1 () trivial rfl rfl (by exact sub_)
/-- Bytes that a call answers: none, or a row of its own. -/
abbrev obs (A : Option Addr) (c : Nat) (bs : List Int) : Fa := own 5 1 A bs.length c (bytes bs)
theorem unE_dash : unE [45] = (0, []) := rfl
theorem unGo_two {a b : UInt8} {r : List UInt8} : unGo (a :: b :: r) = if hx a < 0 ∨ hx b < 0 then none else (unGo r).map fun l => (16 * hx a + hx b) :: l := by rw [unGo]
def unR : Option (List Int) → Int × List Int
  | none => (26, [])
  | some bs => (0, bs)
structure Ub where
  j : Nat
  A : Option Addr
  c : Nat
  bs : List Int
set_option maxRecDepth 100000 in
set_option maxHeartbeats 4000000 in
theorem unhex_ok {K : List Fa} (l : List UInt8) (hl : l.length ≤ 131072) :
    Fn Tryd.prog 7 #[.string (sOf l)] K (Ret (fun _ : Option Addr × Nat => True) (fun q => .tuple #[.slice q.1 (unE l).2.length q.2, .int .i64 (unE l).1]) (fun q => obs q.1 q.2 (unE l).2 :: K)) := by
  have hz := sOf_size l
  refine fn_enter Tryd.func7 rfl _ Tryd.ntmps7 (by simp) [(0, .string (sOf l))] (args_of (by simp)) ?_
  by_cases h0 : l = [45]
  · subst h0
    rw [unE_dash]
    refine go_Wb ?_
    exact se_ret2 (none, 0) trivial rfl rfl rfl rfl (by exact Sub.own_nil Sub.refl)
  have hne : ((sOf l).toList == (sOf [45]).toList) = false := by rw [sOf_eq]; exact decide_eq_false h0
  by_cases h1 : l.length = 0 ∨ l.length % 2 ≠ 0
  · have hu : unE l = (2, []) := by unfold unE; rw [if_neg h0, if_pos h1]
    rw [hu]
    dsimp only [List.length_nil]
    by_cases h2 : l.length = 0
    · refine go_Wb ?_
      rw [hne]
      refine go_Wb ?_
      exact se_ret2 (none, 0) trivial rfl rfl rfl rfl (by exact Sub.own_nil Sub.refl)
    · refine go_Wb ?_
      rw [hne]
      refine go_Wb ?_
      exact se_ret2 (none, 0) trivial rfl rfl rfl rfl (by exact Sub.own_nil Sub.refl)
  have hu : unE l = unR (unGo l) := by
    unfold unE
    rw [if_neg h0, if_neg h1, if_neg (by omega)]
    cases unGo l <;> rfl
  refine go_Wb ?_
  rw [hne]
  refine go_Wb ?_
  rw [show (((sOf l).size : Int) / 2) = ((l.length / 2 : Nat) : Int) from by omega]
  refine sl_make (lo := .tmp 0) (i := default) (k := 0) (c := l.length / 2) (bytes := 1) (size := 1) (z := .int .u8 0) (e := 5) rfl rfl rfl Tryd.info5 (by omega) (by omega) (by unfold maxLen; omega) rfl ?_
  intro g
  rw [Nat.zero_mul, List.take_zero]
  refine go_Wb ?_
  refine sc_for (fun p : Ub => [(0, .string (sOf l)), (4, .slice p.A p.bs.length p.c), (5, .int .i64 ((2 * p.j : Nat) : Int))]) (fun p => obs p.A p.c p.bs :: K) (fun p => 2 * p.j ≤ l.length ∧ p.bs.length = p.j ∧ unGo l = (unGo (l.drop (2 * p.j))).map (p.bs ++ ·)) (fun p => l.length - 2 * p.j) ⟨0, some ⟨g, 0, none⟩, l.length / 2, []⟩ (by exact has_) (by exact sub_) ⟨Nat.zero_le _, rfl, by simp⟩ ?_
  rintro ⟨j, A, c, bs⟩ ⟨hj, hn, hg⟩
  dsimp only at hj hn hg ⊢
  by_cases hlt : 2 * j < l.length
  · obtain ⟨a, ha⟩ : ∃ a, l[2 * j]? = some a := ⟨l[2 * j], List.getElem?_eq_getElem hlt⟩
    obtain ⟨b, hb⟩ : ∃ b, l[2 * j + 1]? = some b := ⟨l[2 * j + 1]'(by omega), List.getElem?_eq_getElem (by omega)⟩
    have hsa : (sOf l)[((2 * j : Nat) : Int).toNat]? = some a := sOf_get ha
    have hsb : (sOf l)[(((2 * j : Nat) : Int) + 1).toNat]? = some b := by rw [show (((2 * j : Nat) : Int) + 1).toNat = 2 * j + 1 from by omega]; exact sOf_get hb
    rw [drop_get ha, drop_get hb, unGo_two] at hg
    obtain ⟨a1, a2⟩ := hx_lt a
    obtain ⟨b1, b2⟩ := hx_lt b
    refine go_Wb ?_
    refine sq_region (by kernel_rfl) (by kernel_rfl) ?_
    repeat refine rq_Wb ?_
    refine fquiet (indexByte_ok a) ?_
    repeat refine rq_Wb ?_
    refine fquiet (indexByte_ok b) ?_
    repeat refine rq_Wb ?_
    refine sq_end ?_
    by_cases ea : hx a < 0
    · rw [if_pos (.inl ea)] at hg
      rw [hu, hg]
      dsimp only [Option.map, unR, List.length_nil]
      refine go_Wb ?_
      exact se_ret2 (none, 0) trivial rfl rfl rfl rfl (by exact Sub.own_nil (by exact sub_))
    by_cases eb : hx b < 0
    · rw [if_pos (.inr eb)] at hg
      rw [hu, hg]
      dsimp only [Option.map, unR, List.length_nil]
      refine go_Wb ?_
      exact se_ret2 (none, 0) trivial rfl rfl rfl rfl (by exact Sub.own_nil (by exact sub_))
    rw [if_neg (by omega), Option.map_map] at hg
    refine go_Wb ?_
    refine sl_build (size := 1) (e := 5) (cells := [.int .u8 (16 * hx a + hx b)]) rfl (fun W => by kernel_rfl) rfl (by decide) rfl ?_
    intro g1
    refine sl_app rfl (by exact pick_) rfl (Vw.of_own (A := some ⟨g1, 0, none⟩) (c := 1) (e := 5) (by exact at_)) (one_bytes [16 * hx a + hx b]) rfl Tryd.info5 rfl (by decide) rfl (by unfold maxLen; omega) (by omega) ?_
    intro A' c'
    refine go_Wb ?_
    rw [show (((2 * j : Nat) : Int) + 2) = ((2 * (j + 1) : Nat) : Int) from by omega]
    have e1 : obs A' c' (bs ++ [16 * hx a + hx b]) = own 5 1 A' (bs.length + 1) c' (bytes bs ++ [Value.int .u8 (16 * hx a + hx b)]) := by
      unfold obs
      rw [List.length_append]
      simp [bytes]
    refine se_round ⟨j + 1, A', c', bs ++ [16 * hx a + hx b]⟩ (by rw [List.length_append]; exact has_) (by dsimp only; rw [e1]; exact sub_) ⟨by dsimp only; omega, by simp [hn], ?_⟩ (by dsimp only; omega)
    dsimp only
    rw [hg, show 2 * (j + 1) = 2 * j + 1 + 1 from by omega]
    congr 1
    funext y
    simp
  · have hjl : 2 * j = l.length := by omega
    rw [hjl, List.drop_length] at hg
    rw [hu, hg]
    dsimp only [unGo, Option.map, unR]
    rw [List.append_nil]
    refine go_Wb ?_
    exact se_ret2 (A, c) trivial rfl rfl rfl rfl (by exact sub_)
end Go.Proofs.YtfnjeojaahnlfaaDoor
