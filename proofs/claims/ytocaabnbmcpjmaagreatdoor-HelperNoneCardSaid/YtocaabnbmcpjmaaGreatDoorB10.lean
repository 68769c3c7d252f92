/- Several texts of one claim, one behind the other (Jt, Jr, Js). -/
import Derived.Test.YtocaabnbmcpjmaaGreatDoorB09
set_option linter.unusedVariables false
set_option linter.unusedSimpArgs false
/- A cell out of a journal: take. -/
namespace Go.Proofs.YtocaabnbmcpjmaaGreatDoor
open Go.RowKit
attribute [local irreducible] Go.Calls Go.Exit.then Go.Exit.inBlock Go.bodyPost Go.Code.wp Go.wpList
theorem jc_one {f : Int} {A : Option Addr} {s c : Nat} : ∀ v ∈ [Value.int .i64 f, .slice A s c], v.oneCell' = true := by
  intro v hv
  simp only [List.mem_cons, List.not_mem_nil, or_false] at hv
  rcases hv with rfl | rfl <;> rfl
theorem nth_Jt {φ : Prop} (h : φ := by (first | rfl | rfl)) : φ := h
theorem mid_Jt {φ : Prop} (h : φ := by (first | exact Mid.all | exact Mid.all | exact Mid.head)) : φ := h
theorem sz_Jt {φ : Prop} (h : φ := by (first | rfl | (rfl; first | done | fail))) : φ := h
theorem one_Jt {φ : Prop} (h : φ := by (first | assumption | exact one_bytes _ | (simp only [List.mem_cons, List.not_mem_nil, or_false, forall_eq_or_imp, forall_eq]; decide) | exact one_bytes _ | (intro v hv; (repeat (rcases List.mem_cons.1 hv with rfl | hv; rfl)); cases hv))) : φ := h
theorem set_Jt {φ : Prop} (h : φ := by (first | (fail) | ((repeat (first | exact SetAt.here | apply SetAt.there)); first | done | fail))) : φ := h
theorem cl_Jt {φ : Prop} (h : φ := by first | rfl | exact .t | exact .f | exact .t (by omega) | exact .f (by omega) | exact .u | exact .i (by (first | exact .t (by omega) | exact .f (by omega) | exact .u | exact .i (by omega) | exact .v (by omega) | exact .b (by omega) | exact .w | rfl | omega)) | exact .v (by omega) | exact .b (by omega) | exact .q (by omega) | exact .w | exact .b (by exact at_) rfl (by exact nth_Jt) | exact .w (by exact at_) rfl rfl (by exact sz_Jt) | exact .s (by exact at_) (by exact mid_Jt) rfl rfl (by exact sz_Jt) | exact .z rfl rfl ⟨by kernel_rfl⟩ | exact .b rfl rfl ⟨by kernel_rfl⟩ | exact .a rfl rfl ⟨by kernel_rfl⟩ | exact .o rfl | exact .s | exact .n | exact .p rfl | exact .q rfl | exact .c rfl | exact .d rfl | exact .n rfl rfl (by omega) | exact .a rfl rfl (by omega) | exact .p rfl rfl (by omega) (by omega) | exact .y rfl rfl (by omega) (by omega) | exact .o (by exact at_) (by omega) rfl (by exact nth_Jt) | exact .m (by exact at_) (by omega) (by exact mid_Jt) rfl rfl (by exact sz_Jt) | exact .mlen (by exact at_) rfl | exact .t (by exact at_) rfl rfl (by first | exact True.intro | rfl) (by assumption) | exact .f (by exact at_) rfl rfl (by first | exact True.intro | rfl) (by assumption) rfl | exact .t1 (by exact at_) rfl rfl (by first | exact True.intro | rfl) (by assumption) | exact .f1 (by exact at_) rfl rfl (by first | exact True.intro | rfl) (by assumption) rfl | exact .tk (by exact at_) rfl (by assumption) (by assumption) | exact .fk (by exact at_) rfl (by assumption) (by assumption) rfl | exact .tk1 (by exact at_) rfl (by assumption) (by assumption) | exact .fk1 (by exact at_) rfl (by assumption) (by assumption) rfl | exact .r rfl rfl (by omega) (by omega) (by exact nth_Jt) rfl | exact .s rfl (by omega) (by assumption) | exact at_ | assumption | exact .r rfl rfl | exact .h rfl rfl rfl (by omega) | exact .l rfl rfl rfl (by omega) (by omega) | exact .g rfl rfl rfl rfl (by omega) (by omega) | exact .h rfl rfl (toN_ (by omega)) (by omega) | exact .l rfl rfl (toN_ (by omega)) (by omega) (by omega) | exact .g rfl rfl (toN_ (by omega)) (toN_ (by omega)) (by omega) (by omega) | exact .o (by decide) | exact .f (by decide) | exact .n (by omega) (by first | decide | (show _ ≤ ((64 : Nat) : Int); omega)) | (constructor; (repeat (first | exact .t (by omega) | exact .f (by omega) | exact .u | exact .i (by omega) | exact .v (by omega) | exact .b (by omega) | exact .w | rfl | omega)); first | done | fail) | omega | (show _ ≤ ((64 : Nat) : Int); omega)) : φ := h
theorem pv_Jt {φ : Prop} (h : φ := by constructor; (repeat exact cl_Jt); first | done | fail) : φ := h
theorem su_Jt {φ ψ : Prop} (k : ψ) (h : Hide ψ → φ := by (intro k; (first | refine sl_pu (PuI.sep (by exact pv_Jt)) rfl ?_ | refine sl_yes rfl rfl ?_ | refine sl_no rfl rfl rfl ?_ | refine sl_off rfl rfl rfl ?_ | (fail)); exact k.out)) : φ := h ⟨k⟩
theorem sto_Jt {φ ψ : Prop} (k : ψ) (h : Hide ψ → φ := by (intro k; (first | refine sl_store rfl (by exact pick_) rfl rfl (by kernel_rfl) (by exact set_Jt) ?_ | refine sl_store_whole rfl (by exact pick_) rfl (by exact sz_Jt) (by exact sz_Jt) (by exact one_Jt) ?_); exact k.out)) : φ := h ⟨k⟩
theorem go_Jt {φ ψ : Prop} (k : ψ) (h : Hide ψ → φ := by (intro k; (repeat (first | refine su_Jt ?_ | refine so_ ?_ | refine sto_Jt ?_)); exact k.out)) : φ := h ⟨k⟩
/-- What the closure of take leaves behind. -/
abbrev jcl (g8 g7 g9 : Nat) (a b s : Int) (A : Option Addr) (n c : Nat) : List Fa := [blk g8 3 [.int .i64 a], blk g7 162 [.int .i64 b, .slice A n c], blk g9 3 [.int .i64 s]]
set_option maxRecDepth 100000 in
set_option maxHeartbeats 4000000 in
theorem take1_ok {K Z : List Fa} {r g8 g7 g9 c : Nat} {A : Option Addr} {d : List Int} (hz : Sub K Z) (h : Rd Z A 56 c d) (hs : leV ((d.drop 6).take 2) ≤ 48) :
    Fn Tryz.prog 102 #[.pointer (some ⟨r, 0, none⟩), .pointer (some ⟨g8, 0, none⟩), .pointer (some ⟨g7, 0, none⟩), .pointer (some ⟨g9, 0, none⟩)] (rdb r A 56 c :: jcl g8 g7 g9 0 0 0 none 0 0 ++ K)
      (Ret (fun p : (Option Addr × Nat) × Rg => p.2.ok Z []) (fun _ => .tuple #[]) (fun p => rdb r p.2.A p.2.n p.2.c :: own 5 1 p.1.1 48 p.1.2 (bytes ((d.drop 8).take 48)) :: jcl g8 g7 g9 (leV (d.take 3)) (leV ((d.drop 3).take 3)) (leV ((d.drop 6).take 2)) p.1.1 48 p.1.2 ++ K)) := by
  refine fn_enter Tryz.func102 rfl _ Tryz.ntmps102 (by simp) [(0, .pointer (some ⟨r, 0, none⟩)), (1, .pointer (some ⟨g8, 0, none⟩)), (2, .pointer (some ⟨g7, 0, none⟩)), (3, .pointer (some ⟨g9, 0, none⟩))] (args_of (by simp)) ?_
  have hl := h.len
  have v0 : 0 ≤ leV (d.take 3) ∧ leV (d.take 3) < 16777216 := by simpa [hl] using leV_lt (h.okb.take 3)
  have v1 : 0 ≤ leV ((d.drop 3).take 3) ∧ leV ((d.drop 3).take 3) < 16777216 := by simpa [hl] using leV_lt ((h.okb.drop 3).take 3)
  have v2 : 0 ≤ leV ((d.drop 6).take 2) ∧ leV ((d.drop 6).take 2) < 65536 := by simpa [hl] using leV_lt ((h.okb.drop 6).take 2)
  show SC _ _ _ _ _ (rdb r A 56 c :: blk g8 3 [.int .i64 0] :: blk g7 162 [.int .i64 0, .slice none 0 0] :: blk g9 3 [.int .i64 0] :: K)
  refine go_Jt ?_
  refine sl_call rfl rfl (by kernel_rfl) rfl (by exact sub_) (rUint (K := blk g8 3 [.int .i64 0] :: blk g7 162 [.int .i64 0, .slice none 0 0] :: blk g9 3 [.int .i64 0] :: K) (k := 3) (Sub.skip (Sub.skip (Sub.skip hz))) h (by decide) (by decide)) ?_
  rintro ⟨A1, n1, c1⟩ hq1
  replace hq1 : Rd Z A1 n1 c1 (d.drop 3) := hq1
  have e1 := hq1.len
  rw [List.length_drop, hl] at e1
  refine go_Jt ?_
  refine sl_call rfl rfl (by kernel_rfl) rfl (by exact sub_) (rUint (K := blk g8 3 [.int .i64 (leV (d.take 3))] :: blk g7 162 [.int .i64 0, .slice none 0 0] :: blk g9 3 [.int .i64 0] :: K) (k := 3) (Sub.skip (Sub.skip (Sub.skip hz))) hq1 (by decide) (by omega)) ?_
  rintro ⟨A2, n2, c2⟩ hq2
  replace hq2 : Rd Z A2 n2 c2 ((d.drop 3).drop 3) := hq2
  rw [List.drop_drop] at hq2
  replace hq2 : Rd Z A2 n2 c2 (d.drop 6) := hq2
  have e2 := hq2.len
  rw [List.length_drop, hl] at e2
  refine go_Jt ?_
  refine sl_call rfl rfl (by kernel_rfl) rfl (by exact sub_) (rCount (K := blk g8 3 [.int .i64 (leV (d.take 3))] :: blk g7 162 [.int .i64 (leV ((d.drop 3).take 3)), .slice none 0 0] :: blk g9 3 [.int .i64 0] :: K) (k := 2) (Sub.skip (Sub.skip (Sub.skip hz))) hq2 (by decide) (by omega) hs (by decide)) ?_
  rintro ⟨A3, n3, c3⟩ hq3
  replace hq3 : Rd Z A3 n3 c3 ((d.drop 6).drop 2) := hq3
  rw [List.drop_drop] at hq3
  replace hq3 : Rd Z A3 n3 c3 (d.drop 8) := hq3
  have e3 := hq3.len
  rw [List.length_drop, hl] at e3
  refine go_Jt ?_
  refine sl_call rfl rfl (by kernel_rfl) rfl (by exact sub_) (rRaw (K := blk g8 3 [.int .i64 (leV (d.take 3))] :: blk g7 162 [.int .i64 (leV ((d.drop 3).take 3)), .slice none 0 0] :: blk g9 3 [.int .i64 (leV ((d.drop 6).take 2))] :: K) (k := 48) (Sub.skip (Sub.skip (Sub.skip hz))) hq3 (by omega)) ?_
  rintro ⟨⟨A4, c4⟩, ⟨A5, n5, c5⟩⟩ hq4
  replace hq4 : Rd Z A5 n5 c5 ((d.drop 8).drop 48) := hq4
  rw [List.drop_drop, List.drop_of_length_le (by omega)] at hq4
  refine go_Jt ?_
  refine se_end0 ((A4, c4), ⟨A5, n5, c5⟩) hq4 rfl rfl ?_
  show Sub _ (rdb r A5 n5 c5 :: own 5 1 A4 48 c4 (bytes ((d.drop 8).take 48)) :: blk g8 3 [.int .i64 (leV (d.take 3))] :: blk g7 162 [.int .i64 (leV ((d.drop 3).take 3)), .slice A4 48 c4] :: blk g9 3 [.int .i64 (leV ((d.drop 6).take 2))] :: K)
  exact sub_
set_option maxRecDepth 100000 in
set_option maxHeartbeats 4000000 in
theorem take1_die {K Z : List Fa} {r g8 g7 g9 c : Nat} {A : Option Addr} {d : List Int} (hz : Sub K Z) (h : Rd Z A 56 c d) (hs : 48 < leV ((d.drop 6).take 2)) :
    Fn Tryz.prog 102 #[.pointer (some ⟨r, 0, none⟩), .pointer (some ⟨g8, 0, none⟩), .pointer (some ⟨g7, 0, none⟩), .pointer (some ⟨g9, 0, none⟩)] (rdb r A 56 c :: jcl g8 g7 g9 0 0 0 none 0 0 ++ K)
      (Pan (fun _ : Rg => True) (fun _ => stopC 6) (fun p => rdb r p.A p.n p.c :: K)) := by
  refine fn_enter Tryz.func102 rfl _ Tryz.ntmps102 (by simp) [(0, .pointer (some ⟨r, 0, none⟩)), (1, .pointer (some ⟨g8, 0, none⟩)), (2, .pointer (some ⟨g7, 0, none⟩)), (3, .pointer (some ⟨g9, 0, none⟩))] (args_of (by simp)) ?_
  have hl := h.len
  have v0 : 0 ≤ leV (d.take 3) ∧ leV (d.take 3) < 16777216 := by simpa [hl] using leV_lt (h.okb.take 3)
  have v1 : 0 ≤ leV ((d.drop 3).take 3) ∧ leV ((d.drop 3).take 3) < 16777216 := by simpa [hl] using leV_lt ((h.okb.drop 3).take 3)
  have v2 : 0 ≤ leV ((d.drop 6).take 2) ∧ leV ((d.drop 6).take 2) < 65536 := by simpa [hl] using leV_lt ((h.okb.drop 6).take 2)
  show SC _ _ _ _ _ (rdb r A 56 c :: blk g8 3 [.int .i64 0] :: blk g7 162 [.int .i64 0, .slice none 0 0] :: blk g9 3 [.int .i64 0] :: K)
  refine go_Jt ?_
  refine sl_call rfl rfl (by kernel_rfl) rfl (by exact sub_) (rUint (K := blk g8 3 [.int .i64 0] :: blk g7 162 [.int .i64 0, .slice none 0 0] :: blk g9 3 [.int .i64 0] :: K) (k := 3) (Sub.skip (Sub.skip (Sub.skip hz))) h (by decide) (by decide)) ?_
  rintro ⟨A1, n1, c1⟩ hq1
  replace hq1 : Rd Z A1 n1 c1 (d.drop 3) := hq1
  have e1 := hq1.len
  rw [List.length_drop, hl] at e1
  refine go_Jt ?_
  refine sl_call rfl rfl (by kernel_rfl) rfl (by exact sub_) (rUint (K := blk g8 3 [.int .i64 (leV (d.take 3))] :: blk g7 162 [.int .i64 0, .slice none 0 0] :: blk g9 3 [.int .i64 0] :: K) (k := 3) (Sub.skip (Sub.skip (Sub.skip hz))) hq1 (by decide) (by omega)) ?_
  rintro ⟨A2, n2, c2⟩ hq2
  replace hq2 : Rd Z A2 n2 c2 ((d.drop 3).drop 3) := hq2
  rw [List.drop_drop] at hq2
  replace hq2 : Rd Z A2 n2 c2 (d.drop 6) := hq2
  have e2 := hq2.len
  rw [List.length_drop, hl] at e2
  refine go_Jt ?_
  refine sl_die rfl rfl (by kernel_rfl) (by exact sub_) (rCount_range (K := blk g8 3 [.int .i64 (leV (d.take 3))] :: blk g7 162 [.int .i64 (leV ((d.drop 3).take 3)), .slice none 0 0] :: blk g9 3 [.int .i64 0] :: K) (k := 2) (Sub.skip (Sub.skip (Sub.skip hz))) hq2 (by decide) (by omega) hs) ?_
  rintro ⟨A3, n3, c3⟩ -
  refine go_Jt ?_
  exact se_panic ⟨A3, n3, c3⟩ trivial (by exact sub_)
set_option maxRecDepth 100000 in
set_option maxHeartbeats 4000000 in
theorem sum_ok {K : List Fa} {A : Option Addr} {n c : Nat} {xs : List Int} (h : Rd K A n c xs) (hn : 8 ≤ n) :
    Fn Tryz.prog 101 #[.slice A n c] K (Ret (fun _ : Option Addr × Nat => True) (fun p => .slice p.1 8 p.2) (fun p => own 5 1 p.1 8 p.2 (bytes (hashL 9 (xs.drop 8) 8)) :: K)) := by
  refine fn_enter Tryz.func101 rfl _ Tryz.ntmps101 (by simp) [(0, .slice A n c)] (args_of (by simp)) ?_
  have hle := h.le
  have h8 := h.next hn
  refine go_Jt ?_
  refine sl_call rfl rfl (by kernel_rfl) rfl (by exact sub_) (hash_ok (n := 8) (by decide) (by decide) (by decide) h8.vw h8.okb h8.len h8.big) ?_
  rintro ⟨A2, c2⟩ -
  refine go_Jt ?_
  exact se_ret1 (A2, c2) trivial rfl rfl (by exact sub_)
theorem Rd.front {Z : List Fa} {A : Option Addr} {n c m : Nat} {rest : List Int} (h : Rd Z A n c rest) (hm : m ≤ n) : Rd Z A m c (rest.take m) :=
  ⟨fun w hw => by have h1 := (h.vw w hw).take (k := m) hm; rwa [bytes_take] at h1, Nat.le_trans hm h.le, Nat.le_trans hm h.big, h.cb, by rw [List.length_take, h.len]; omega, h.okb.take m⟩
theorem Rd.mono {Z Z' : List Fa} {A : Option Addr} {n c : Nat} {rest : List Int} (h : Rd Z A n c rest) (hs : Sub Z' Z) : Rd Z' A n c rest := ⟨h.vw.mono hs, h.le, h.big, h.cb, h.len, h.okb⟩
theorem saysL_no1 {d : List Int} {k : Nat} (h : 48 < leV ((d.drop 6).take 2)) : saysL d k = none := if_pos h
theorem saysL_no2 {d : List Int} {k : Nat} (h : ¬ 48 < leV ((d.drop 6).take 2)) (h2 : leV (d.take 3) ≠ k) : saysL d k = none := (if_neg h).trans (if_pos h2)
theorem saysL_eq {d : List Int} {k s f : Nat} (h : ¬ 48 < leV ((d.drop 6).take 2)) (h2 : leV (d.take 3) = k) (hs : leV ((d.drop 6).take 2) = s) (hf : leV ((d.drop 3).take 3) = f) :
    saysL d k = if (((d.drop 8).take 48).drop s).all (· == 0) then some (f, ((d.drop 8).take 48).take s) else none := by
  refine (if_neg h).trans ((if_neg (fun hn => hn h2)).trans ?_)
  rw [hs, hf, Int.toNat_natCast, Int.toNat_natCast]
def jz : List Value := [.int .i64 0, .slice none 0 0]
theorem build_jz (W : World) : (Instr.build 162 #[]).run Tryz.prog W = .ok (.agg jz.toArray) W := by kernel_rfl
theorem jz_one : ∀ v ∈ jz, v.oneCell' = true := by decide
theorem call_take1 : ∀ args w, (callFunc 102 args).run Tryz.prog w = .ok (.enter 102 args) w := fun args w => by kernel_rfl
/-- What take answers. -/
def TkA (K : List Fa) : Option (Nat × List Int) → Ending → World → Prop
  | some (f, p) => Ret (fun _ : Option Addr × Nat => True) (fun q => .tuple #[.agg #[.int .i64 f, .slice q.1 p.length q.2], .bool true]) (fun q => u8o q.1 q.2 p :: K)
  | none => Ret (fun _ : Unit => True) (fun _ => .tuple #[.agg jz.toArray, .bool false]) (fun _ => K)
theorem TkA_no {K : List Fa} : TkA K none = Ret (fun _ : Unit => True) (fun _ => .tuple #[.agg jz.toArray, .bool false]) (fun _ => K) := rfl
theorem TkA_yes {K : List Fa} {f : Nat} {p : List Int} : TkA K (some (f, p)) = Ret (fun _ : Option Addr × Nat => True) (fun q => .tuple #[.agg #[.int .i64 f, .slice q.1 p.length q.2], .bool true]) (fun q => u8o q.1 q.2 p :: K) := rfl
set_option maxRecDepth 100000 in
set_option maxHeartbeats 1000000 in
theorem take_ok {K : List Fa} {A : Option Addr} {n c k : Nat} {bs : List Int} (h : Rd K A n c bs) (hk : k ≤ 1000000000000) :
    Fn Tryz.prog 75 #[.slice A n c, .int .i64 k] K (TkA K (takeL bs k)) := by
  refine fn_enter Tryz.func75 rfl _ Tryz.ntmps75 (by simp) [(0, .slice A n c), (1, .int .i64 k)] (args_of (by simp)) ?_
  have hle := h.le
  have hbig := h.big
  have hlen := h.len
  by_cases h1 : n < (k + 1) * 64
  · rw [show takeL bs k = none from if_pos (by omega), TkA_no]
    refine go_Jt ?_
    refine sl_alloc rfl rfl rfl ?_; intro g4
    refine go_Jt ?_
    refine sl_pu (pu_build (v := .agg jz.toArray) rfl build_jz) rfl ?_
    refine sl_store_whole (cl := jz) rfl (by exact pick_) rfl rfl rfl jz_one ?_
    refine go_Jt ?_
    exact se_ret_ct () trivial rfl rfl (by exact at_) rfl rfl rfl rfl rfl (by exact sub_)
  have hx : Rd K (cutA A c (k * 64) 1) 64 (c - k * 64) (cutL bs k) := (h.next (k := k * 64) (by omega)).front (m := 64) (by omega)
  have htk : takeL bs k = if hashL 9 ((cutL bs k).drop 8) 8 ≠ (cutL bs k).take 8 then none else saysL ((cutL bs k).drop 8) k := if_neg (by omega)
  rw [htk]
  clear htk
  have e64 : k * 64 + 64 - k * 64 = 64 := by omega
  refine go_Jt ?_
  refine sl_alloc rfl rfl rfl ?_; intro g4
  refine go_Jt ?_
  rw [show ((k : Int) * 64).toNat = k * 64 by omega, show ((k : Int) * 64 + 64).toNat = k * 64 + 64 by omega, e64]
  generalize cutA A c (k * 64) 1 = B at hx ⊢
  generalize c - k * 64 = cb at hx ⊢
  generalize cutL bs k = xs at hx ⊢
  clear h hle hbig hlen h1 e64
  have hle := hx.le
  have hlen := hx.len
  have hh := hashL_ok 9 (xs.drop 8) 8
  refine sc_join (fun _ : Unit => [(0, .slice B 64 cb), (1, .int .i64 k), (4, .pointer (some ⟨g4, 0, none⟩)), (32, .bool (!decide (hashL 9 (xs.drop 8) 8 = xs.take 8)))]) (fun _ => blk g4 162 jz :: K) (fun _ => True) ?_ ?_
  · refine sd_drawn (S2 (K) []) (fun _ => true) (by kernel_rfl) 7 rfl ?_
    refine sd_yes2 0 rfl (by exact gd_) (by kernel_rfl) (by kernel_rfl) (by exact nop_) (PuI.all2 (by exact pv_Jt)) rfl (fun w hw => ⟨hw.sub (by exact sub_), by exact all_ hw⟩) ?_
    refine sd_yes2 3 rfl (by exact gd_) (by kernel_rfl) (by kernel_rfl) (by exact nop_) (PuI.all2 (by exact pv_Jt)) rfl (fun w hw => ⟨hw.sub (by exact sub_), by exact all_ hw⟩) ?_
    refine sd_yes2 4 rfl (by exact gd_) (by kernel_rfl) (by kernel_rfl) (by exact nop_) (pu_slice_hn (j := 8) rfl rfl rfl rfl rfl (by omega)) rfl (fun w hw => ⟨hw.sub (by exact sub_), by exact all_ hw⟩) ?_
    refine sd_yes2 5 rfl (by exact gd_) (by kernel_rfl) (by kernel_rfl) (by exact nop_) (pu_str (bs := xs.take 8) rfl rfl rfl rfl (fun W hW => (hx.front (m := 8) (by omega)).vw W hW.1)) rfl (fun w hw => ⟨hw.sub (by exact sub_), by exact all_ hw⟩) ?_
    refine sd_one 1 (by kernel_rfl) (sa_sl 1 rfl ?_)
    refine sl_call rfl rfl (by kernel_rfl) rfl Sub.refl (sum_ok (hx.mono (by exact sub_)) (by omega)) ?_
    rintro ⟨A1, c1⟩ -
    refine sl_nil ?_
    refine se_sd (fun _ w hw => ⟨hw.sub (by exact sub_), by exact all_ hw⟩) ?_
    refine sd_one 2 (by kernel_rfl) (sa_sl 2 rfl ?_)
    refine sl_pu (pu_strv (Vw.of_own (e := 5) (c := c1) (by exact at_)) rfl rfl rfl rfl) rfl ?_
    refine sl_nil ?_
    refine se_sd (fun _ w hw => ⟨hw.sub (by exact sub_), by exact all_ hw⟩) ?_
    refine sd_yes2 6 rfl (by exact gd_) (by kernel_rfl) (by kernel_rfl) (by exact nop_) (PuI.all2 (by exact pv_Jt)) rfl (fun w hw => ⟨hw.sub (by exact sub_), by exact all_ hw⟩) ?_
    refine sd_done (by kernel_rfl) ?_
    rw [strs_dec hh.2 (hx.okb.take 8)]
    exact se_mid () (by exact has_) (by exact sub_) trivial
  rintro _ -
  by_cases h2 : hashL 9 (xs.drop 8) 8 ≠ xs.take 8
  · rw [if_pos h2, TkA_no, decide_eq_false h2]
    refine go_Jt ?_
    refine sl_pu (pu_build (v := .agg jz.toArray) rfl build_jz) rfl ?_
    refine sl_store_whole (cl := jz) rfl (by exact pick_) rfl rfl rfl jz_one ?_
    refine go_Jt ?_
    exact se_ret_ct () trivial rfl rfl (by exact at_) rfl rfl rfl rfl rfl (by exact sub_)
  rw [if_neg h2, decide_eq_true (Classical.not_not.1 h2)]
  have hd : Rd K (cutA B cb 8 1) 56 (cb - 8) (xs.drop 8) := hx.next (k := 8) (by omega)
  clear h2 hh
  generalize xs.drop 8 = d at hd ⊢
  have hdl := hd.len
  refine go_Jt ?_
  refine sl_alloc rfl rfl rfl ?_; intro g7
  refine go_Jt ?_
  refine sl_alloc rfl rfl rfl ?_; intro g8
  refine go_Jt ?_
  refine sl_alloc rfl rfl rfl ?_; intro g9
  refine go_Jt ?_
  by_cases h3 : 48 < leV ((d.drop 6).take 2)
  · rw [saysL_no1 h3, TkA_no]
    refine sl_call rfl rfl (by kernel_rfl) rfl (by exact sub_) (read_die (α := Unit) (x := 6) (φ := fun _ => True) (H := fun _ => blk g4 162 jz :: K) (K := blk g8 3 [.int .i64 0] :: blk g7 162 [.int .i64 0, .slice none 0 0] :: blk g9 3 [.int .i64 0] :: blk g4 162 jz :: K) (Z := K) call_take1 (Sub.skip (Sub.skip (Sub.skip (Sub.skip Sub.refl)))) hd (fun r f0 => ?_)) ?_
    · have h := take1_die (r := r) (g8 := g8) (g7 := g7) (g9 := g9) (K := f0 :: blk g4 162 jz :: K) (Z := K) (Sub.skip (Sub.skip Sub.refl)) hd h3
      refine (h.sub (by show Sub _ (rdb r _ _ _ :: blk g8 3 [.int .i64 0] :: blk g7 162 [.int .i64 0, .slice none 0 0] :: blk g9 3 [.int .i64 0] :: f0 :: blk g4 162 jz :: K); exact sub_)).mono ?_
      rintro e w ⟨q, -, he, hs⟩
      exact ⟨((), q), trivial, he, hs⟩
    rintro _ -
    refine go_Jt ?_
    refine sl_pu (pu_build (v := .agg jz.toArray) rfl build_jz) rfl ?_
    refine sl_store_whole (cl := jz) rfl (by exact pick_) rfl rfl rfl jz_one ?_
    refine go_Jt ?_
    exact se_ret_ct () trivial rfl rfl (by exact at_) rfl rfl rfl rfl rfl (by exact sub_)
  refine sl_call rfl rfl (by kernel_rfl) rfl (by exact sub_) (read_ok (α := Option Addr × Nat) (rest := []) (φ := fun _ => True) (H := fun p => own 5 1 p.1 48 p.2 (bytes ((d.drop 8).take 48)) :: blk g8 3 [.int .i64 (leV (d.take 3))] :: blk g7 162 [.int .i64 (leV ((d.drop 3).take 3)), .slice p.1 48 p.2] :: blk g9 3 [.int .i64 (leV ((d.drop 6).take 2))] :: blk g4 162 jz :: K) (K := blk g8 3 [.int .i64 0] :: blk g7 162 [.int .i64 0, .slice none 0 0] :: blk g9 3 [.int .i64 0] :: blk g4 162 jz :: K) (Z := K) call_take1 (Sub.skip (Sub.skip (Sub.skip (Sub.skip Sub.refl)))) hd (fun p => Sub.skip (Sub.skip (Sub.skip (Sub.skip (Sub.skip Sub.refl))))) (fun r f0 => ?_)) ?_
  · have h := take1_ok (r := r) (g8 := g8) (g7 := g7) (g9 := g9) (K := f0 :: blk g4 162 jz :: K) (Z := K) (Sub.skip (Sub.skip Sub.refl)) hd (by omega)
    refine (h.sub (by show Sub _ (rdb r _ _ _ :: blk g8 3 [.int .i64 0] :: blk g7 162 [.int .i64 0, .slice none 0 0] :: blk g9 3 [.int .i64 0] :: f0 :: blk g4 162 jz :: K); exact sub_)).mono ?_
    rintro e w ⟨q, hq, he, hs⟩
    refine ⟨q, ⟨trivial, hq⟩, he, hs.sub ?_⟩
    show Sub (rdb r q.2.A q.2.n q.2.c :: own 5 1 q.1.1 48 q.1.2 (bytes ((d.drop 8).take 48)) :: blk g8 3 [.int .i64 (leV (d.take 3))] :: blk g7 162 [.int .i64 (leV ((d.drop 3).take 3)), .slice q.1.1 48 q.1.2] :: blk g9 3 [.int .i64 (leV ((d.drop 6).take 2))] :: f0 :: blk g4 162 jz :: K) _
    exact sub_
  rintro ⟨A4, c4⟩ -
  rw [show endCode [] = 0 from rfl]
  obtain ⟨s, hs⟩ : ∃ s : Nat, leV ((d.drop 6).take 2) = s := ⟨_, (Int.toNat_of_nonneg (leV_lt ((hd.okb.drop 6).take 2)).1).symm⟩
  obtain ⟨f, hf⟩ : ∃ f : Nat, leV ((d.drop 3).take 3) = f := ⟨_, (Int.toNat_of_nonneg (leV_lt ((hd.okb.drop 3).take 3)).1).symm⟩
  have hs48 : s ≤ 48 := by omega
  by_cases h5 : leV (d.take 3) ≠ k
  · rw [saysL_no2 h3 h5, TkA_no]
    generalize leV (d.take 3) = sd at h5 ⊢
    refine go_Jt ?_
    refine sl_pu (pu_build (v := .agg jz.toArray) rfl build_jz) rfl ?_
    refine sl_store_whole (cl := jz) rfl (by exact pick_) rfl rfl rfl jz_one ?_
    refine go_Jt ?_
    exact se_ret_ct () trivial rfl rfl (by exact at_) rfl rfl rfl rfl rfl (by exact sub_)
  replace h5 := Classical.not_not.1 h5
  rw [saysL_eq h3 h5 hs hf, h5, hs, hf]
  have hpl : ((d.drop 8).take 48).length = 48 := by rw [List.length_take, List.length_drop, hdl]; decide
  have hpb := (hd.okb.drop 8).take 48
  generalize (d.drop 8).take 48 = part at hpl hpb ⊢
  clear h3 h5 hs hf hd hx
  refine sl_know (fun w hw => (own_len (e := 5) (size := 1) (A := A4) hw (by exact at_)).2) ?_
  rintro ⟨l1, l2⟩
  have hr : Rd [own 5 1 A4 48 c4 (bytes part)] A4 48 c4 part := ⟨Vw.of_own .here, l1, by decide, l2, hpl, hpb⟩
  have hq := hr.next hs48
  have hql := hq.len
  refine go_Jt ?_
  generalize cutA A4 c4 s 1 = B2 at hq ⊢
  refine sc_for (fun j : Nat => [(4, .pointer (some ⟨g4, 0, none⟩)), (7, .pointer (some ⟨g7, 0, none⟩)), (9, .pointer (some ⟨g9, 0, none⟩)), (49, .slice B2 (48 - s) (c4 - s)), (50, .int .i64 ((48 - s : Nat) : Int)), (51, .int .i64 j)]) (fun _ => own 5 1 A4 48 c4 (bytes part) :: blk g7 162 [.int .i64 f, .slice A4 48 c4] :: blk g9 3 [.int .i64 s] :: blk g4 162 jz :: K) (fun j => j ≤ 48 - s ∧ ((part.drop s).take j).all (· == 0) = true) (fun j => 48 - s - j) 0 (by exact has_) (by exact sub_) ⟨Nat.zero_le _, rfl⟩ ?_
  rintro j ⟨hj, hall⟩
  by_cases hlt : j < 48 - s
  · have hlt' : j < (part.drop s).length := by omega
    have hb := hq.okb _ (List.getElem_mem hlt')
    refine sc_know (vw_form (hq.vw.mono (L' := own 5 1 A4 48 c4 (bytes part) :: blk g7 162 [.int .i64 f, .slice A4 48 c4] :: blk g9 3 [.int .i64 s] :: blk g4 162 jz :: K) (by exact sub_)) (by omega)) ?_
    rintro ⟨ad, rfl⟩
    refine go_Jt ?_
    refine sl_pu (pu_ldr (hq.vw.mono (by exact sub_)) (by omega) rfl rfl (bytes_nth1 hlt')) rfl ?_
    have hsn := take_snoc hlt'
    by_cases hz : (part.drop s)[j] = 0
    · rw [hz] at hsn ⊢
      refine go_Jt ?_
      exact se_round (j + 1) (by exact has_) (by exact sub_) ⟨hlt, by rw [hsn, List.all_append, hall]; rfl⟩ (by omega)
    · have hno : (part.drop s).all (· == 0) = false := by
        rw [Bool.eq_false_iff]
        intro hc
        rw [List.all_eq_true] at hc
        exact hz (by simpa using hc _ (List.getElem_mem hlt'))
      rw [hno, if_neg Bool.false_ne_true, TkA_no]
      generalize (part.drop s)[j] = z at hb hz ⊢
      refine go_Jt ?_
      refine sl_pu (pu_build (v := .agg jz.toArray) rfl build_jz) rfl ?_
      refine sl_store_whole (cl := jz) rfl (by exact pick_) rfl rfl rfl jz_one ?_
      refine go_Jt ?_
      exact se_ret_ct () trivial rfl rfl (by exact at_) rfl rfl rfl rfl rfl (by exact sub_)
  obtain rfl : j = 48 - s := by omega
  rw [List.take_of_length_le (by omega)] at hall
  rw [hall, if_pos rfl, TkA_yes]
  refine go_Jt ?_
  try refine sl_store_whole (cs := jz) (cl := [.int .i64 f, .slice A4 s c4]) rfl (by exact pick_) rfl rfl rfl jc_one ?_
  refine go_Jt ?_
  refine se_ent (L' := own 5 1 A4 s c4 ((bytes part).take (s * 1)) :: blk g4 162 [.int .i64 f, .slice A4 s c4] :: K) (fun w hw => (sep_less (e := 5) (size := 1) (A := A4) (k := 48) (c := c4) (xs := bytes part) (m := s) (L' := blk g4 162 [.int .i64 f, .slice A4 s c4] :: K) (hw.sub (by exact sub_)) .here hs48)) ?_
  rw [bytes_take]
  have e1 : (part.take s).length = s := by rw [List.length_take, hpl]; omega
  refine se_ret_ct (A4, c4) trivial rfl rfl (by exact at_) rfl rfl rfl rfl ?_ ?_
  · rw [e1]
  · show Sub _ (own 5 1 A4 (part.take s).length c4 (bytes (part.take s)) :: K)
    rw [e1]
    exact sub_
end Go.Proofs.YtocaabnbmcpjmaaGreatDoor
/- A record out of a journal: record. -/
namespace Go.Proofs.YtocaabnbmcpjmaaGreatDoor
open Go.RowKit
attribute [local irreducible] Go.Calls Go.Exit.then Go.Exit.inBlock Go.bodyPost Go.Code.wp Go.wpList takeL
theorem saysL_some {d : List Int} {k f : Nat} {p : List Int} (h : saysL d k = some (f, p)) (hb : IsBytes d) : p.length ≤ 48 ∧ f < 16777216 ∧ IsBytes p := by
  unfold saysL at h
  split at h
  · cases h
  split at h
  · cases h
  split at h
  · injection h with h
    injection h with h1 h2
    subst h1 h2
    refine ⟨by rw [List.length_take, List.length_take]; omega, ?_, ((hb.drop 8).take 48).take _⟩
    have := leV_lt ((hb.drop 3).take 3)
    have h3 : ((d.drop 3).take 3).length ≤ 3 := by rw [List.length_take]; omega
    have h4 : (2 : Int) ^ (8 * ((d.drop 3).take 3).length) ≤ 2 ^ 24 := by
      have h5 : (2 : Nat) ^ (8 * ((d.drop 3).take 3).length) ≤ 2 ^ 24 := Nat.pow_le_pow_right (by decide) (by omega)
      have h6 : ((2 ^ (8 * ((d.drop 3).take 3).length) : Nat) : Int) ≤ ((2 ^ 24 : Nat) : Int) := by omega
      simpa using h6
    omega
  · cases h
attribute [local semireducible] takeL in
theorem takeL_some {bs : List Int} {k f : Nat} {p : List Int} (h : takeL bs k = some (f, p)) (hb : IsBytes bs) : p.length ≤ 48 ∧ f < 16777216 ∧ IsBytes p ∧ (k + 1) * 64 ≤ bs.length := by
  unfold takeL at h
  split at h
  · cases h
  split at h
  · cases h
  obtain ⟨h1, h2, h3⟩ := saysL_some h (((hb.drop _).take _).drop _)
  exact ⟨h1, h2, h3, by omega⟩
theorem build_jc (f : Int) (A : Option Addr) (n c : Nat) (W : World) : (Instr.build 162 #[(0, .int .i64 f), (1, .slice A n c)]).run Tryz.prog W = .ok (.agg #[.int .i64 f, .slice A n c]) W := by kernel_rfl
theorem nth_Jr {φ : Prop} (h : φ := by (first | rfl | rfl)) : φ := h
theorem mid_Jr {φ : Prop} (h : φ := by (first | exact Mid.all | exact Mid.all | exact Mid.head)) : φ := h
theorem sz_Jr {φ : Prop} (h : φ := by (first | rfl | (rfl; first | done | fail))) : φ := h
theorem one_Jr {φ : Prop} (h : φ := by (first | assumption | exact first | exact jc_one | exact jz_one | exact one_bytes _ | (simp only [List.mem_cons, List.not_mem_nil, or_false, forall_eq_or_imp, forall_eq]; decide) | exact one_bytes _ | (intro v hv; (repeat (rcases List.mem_cons.1 hv with rfl | hv; rfl)); cases hv))) : φ := h
theorem set_Jr {φ : Prop} (h : φ := by (first | (fail) | ((repeat (first | exact SetAt.here | apply SetAt.there)); first | done | fail))) : φ := h
theorem cl_Jr {φ : Prop} (h : φ := by first | rfl | exact .t | exact .f | exact .t (by omega) | exact .f (by omega) | exact .u | exact .i (by (first | exact .t (by omega) | exact .f (by omega) | exact .u | exact .i (by omega) | exact .v (by omega) | exact .b (by omega) | exact .w | rfl | omega)) | exact .v (by omega) | exact .b (by omega) | exact .q (by omega) | exact .w | exact .b (by exact at_) rfl (by exact nth_Jr) | exact .w (by exact at_) rfl rfl (by exact sz_Jr) | exact .s (by exact at_) (by exact mid_Jr) rfl rfl (by exact sz_Jr) | exact .z rfl rfl ⟨by kernel_rfl⟩ | exact .b rfl rfl ⟨by kernel_rfl⟩ | exact .a rfl rfl ⟨by kernel_rfl⟩ | exact .o rfl | exact .s | exact .n | exact .p rfl | exact .q rfl | exact .c rfl | exact .d rfl | exact .n rfl rfl (by omega) | exact .a rfl rfl (by omega) | exact .p rfl rfl (by omega) (by omega) | exact .y rfl rfl (by omega) (by omega) | exact .o (by exact at_) (by omega) rfl (by exact nth_Jr) | exact .m (by exact at_) (by omega) (by exact mid_Jr) rfl rfl (by exact sz_Jr) | exact .mlen (by exact at_) rfl | exact .t (by exact at_) rfl rfl (by first | exact True.intro | rfl) (by assumption) | exact .f (by exact at_) rfl rfl (by first | exact True.intro | rfl) (by assumption) rfl | exact .t1 (by exact at_) rfl rfl (by first | exact True.intro | rfl) (by assumption) | exact .f1 (by exact at_) rfl rfl (by first | exact True.intro | rfl) (by assumption) rfl | exact .tk (by exact at_) rfl (by assumption) (by assumption) | exact .fk (by exact at_) rfl (by assumption) (by assumption) rfl | exact .tk1 (by exact at_) rfl (by assumption) (by assumption) | exact .fk1 (by exact at_) rfl (by assumption) (by assumption) rfl | exact .r rfl rfl (by omega) (by omega) (by exact nth_Jr) rfl | exact .s rfl (by omega) (by assumption) | exact at_ | assumption | exact .r rfl rfl | exact .h rfl rfl rfl (by omega) | exact .l rfl rfl rfl (by omega) (by omega) | exact .g rfl rfl rfl rfl (by omega) (by omega) | exact .h rfl rfl (toN_ (by omega)) (by omega) | exact .l rfl rfl (toN_ (by omega)) (by omega) (by omega) | exact .g rfl rfl (toN_ (by omega)) (toN_ (by omega)) (by omega) (by omega) | exact .o (by decide) | exact .f (by decide) | exact .n (by omega) (by first | decide | (show _ ≤ ((64 : Nat) : Int); omega)) | (constructor; (repeat (first | exact .t (by omega) | exact .f (by omega) | exact .u | exact .i (by omega) | exact .v (by omega) | exact .b (by omega) | exact .w | rfl | omega)); first | done | fail) | omega | (show _ ≤ ((64 : Nat) : Int); omega)) : φ := h
theorem pv_Jr {φ : Prop} (h : φ := by constructor; (repeat exact cl_Jr); first | done | fail) : φ := h
theorem su_Jr {φ ψ : Prop} (k : ψ) (h : Hide ψ → φ := by (intro k; (first | refine sl_pu (PuI.sep (by exact pv_Jr)) rfl ?_ | refine sl_yes rfl rfl ?_ | refine sl_no rfl rfl rfl ?_ | refine sl_off rfl rfl rfl ?_ | (fail)); exact k.out)) : φ := h ⟨k⟩
theorem rq_Jr {φ ψ : Prop} (k : ψ) (h : Hide ψ → φ := by (intro k; (first | refine wq_pu (PuI.sep (by exact pv_Jr)) rfl ?_ | refine wq_yes rfl rfl ?_ | refine wq_no rfl rfl rfl ?_ | refine wq_off rfl rfl rfl ?_ | (fail)); exact k.out)) : φ := h ⟨k⟩
theorem sto_Jr {φ ψ : Prop} (k : ψ) (h : Hide ψ → φ := by (intro k; (first | refine sl_store rfl (by exact pick_) rfl rfl (by kernel_rfl) (by exact set_Jr) ?_ | refine sl_store_whole rfl (by exact pick_) rfl (by exact sz_Jr) (by exact sz_Jr) (by exact one_Jr) ?_); exact k.out)) : φ := h ⟨k⟩
theorem go_Jr {φ ψ : Prop} (k : ψ) (h : Hide ψ → φ := by (intro k; (repeat (first | refine su_Jr ?_ | refine so_ ?_ | refine sto_Jr ?_)); exact k.out)) : φ := h ⟨k⟩
set_option maxRecDepth 100000 in
set_option maxHeartbeats 1000000 in
theorem cells_ok {K : List Fa} {n : Nat} (hn : n ≤ 1000000000000000) :
    Fn Tryz.prog 100 #[.int .i64 n] K (Ret (fun _ : Unit => True) (fun _ => .int .i64 (manyL n)) (fun _ => K)) := by
  refine fn_enter Tryz.func100 rfl _ Tryz.ntmps100 (by simp) [(0, .int .i64 n)] (args_of (by simp)) ?_
  have hm : (if ((n : Int) + 64 - 16 - 1) / 48 < 1 then (1 : Int) else ((n : Int) + 64 - 16 - 1) / 48) = manyL n := by
    unfold manyL
    split <;> omega
  refine go_Jr ?_
  rw [hm]
  refine go_Jr ?_
  exact se_ret1 () trivial rfl rfl (by exact sub_)
def RcA (K : List Fa) : Option (List Int × Nat) → Ending → World → Prop
  | some (out, m) => Ret (fun q : Option Addr × Nat × Nat => out.length ≤ q.2.1 ∧ q.2.1 ≤ maxLen) (fun q => .tuple #[.slice q.1 out.length q.2.1, .int .i64 m, .bool true]) (fun q => u8o q.1 q.2.2 out :: K)
  | none => Ret (fun _ : Unit => True) (fun _ => .tuple #[.slice none 0 0, .int .i64 0, .bool false]) (fun _ => K)
theorem RcA_no {K : List Fa} : RcA K none = Ret (fun _ : Unit => True) (fun _ => .tuple #[.slice none 0 0, .int .i64 0, .bool false]) (fun _ => K) := rfl
theorem RcA_yes {K : List Fa} {out : List Int} {m : Nat} : RcA K (some (out, m)) = Ret (fun q : Option Addr × Nat × Nat => out.length ≤ q.2.1 ∧ q.2.1 ≤ maxLen) (fun q => .tuple #[.slice q.1 out.length q.2.1, .int .i64 m, .bool true]) (fun q => u8o q.1 q.2.2 out :: K) := rfl
structure Jg where
  i : Nat
  out : List Int
  A : Option Addr
  c : Nat
  d : Nat
set_option maxRecDepth 100000 in
set_option maxHeartbeats 4000000 in
theorem record_ok {K : List Fa} {A : Option Addr} {n c k : Nat} {bs : List Int} (h : Rd K A n c bs) (hk : k ≤ 100000000000) :
    Fn Tryz.prog 74 #[.slice A n c, .int .i64 k] K (RcA K (recordL bs k)) := by
  refine fn_enter Tryz.func74 rfl _ Tryz.ntmps74 (by simp) [(0, .slice A n c), (1, .int .i64 k)] (args_of (by simp)) ?_
  have hle := h.le
  have hbig := h.big
  have hlen := h.len
  have htk := take_ok h (k := k) (by omega)
  refine go_Jr ?_
  cases ht : takeL bs k with
  | none =>
    rw [show recordL bs k = none from by unfold recordL; rw [ht], RcA_no]
    rw [ht, TkA_no] at htk
    refine sl_call rfl rfl (by kernel_rfl) rfl (by exact sub_) htk ?_
    rintro _ -
    refine go_Jr ?_
    refine sl_alloc rfl rfl rfl ?_; intro g7
    refine go_Jr ?_
    refine sd_drawn (fun W => AllP W [blk g7 162 jz]) (fun _ => true) (by kernel_rfl) 8 rfl ?_
    refine sd_yes2 0 rfl (by exact gd_) (by kernel_rfl) (by kernel_rfl) (by exact nop_) (PuI.all (by exact pv_Jr)) rfl (fun w hw => all_ hw) ?_
    refine sd_yes2 1 rfl (by exact gd_) (by kernel_rfl) (by kernel_rfl) (by exact nop_) (PuI.all (by exact pv_Jr)) rfl (fun w hw => all_ hw) ?_
    refine sd_yes2 2 rfl (by exact gd_) (by kernel_rfl) (by kernel_rfl) (by exact nop_) (PuI.all (by exact pv_Jr)) rfl (fun w hw => all_ hw) ?_
    first | refine sd_yes2 3 rfl (by exact gd_) (by kernel_rfl) (by kernel_rfl) (by exact nop_) (PuI.all (by exact pv_Jr)) rfl (fun w hw => all_ hw) ?_ | refine sd_off2 3 rfl (by exact gd_) (by kernel_rfl) (by kernel_rfl) (by exact nop_) rfl (fun w hw => all_ hw) ?_ | refine sd_off3 3 rfl rfl rfl (by kernel_rfl) (by kernel_rfl) (by exact nop_) rfl (fun w hw => all_ hw) ?_
    first | refine sd_yes2 4 rfl (by exact gd_) (by kernel_rfl) (by kernel_rfl) (by exact nop_) (PuI.all (by exact pv_Jr)) rfl (fun w hw => all_ hw) ?_ | refine sd_off2 4 rfl (by exact gd_) (by kernel_rfl) (by kernel_rfl) (by exact nop_) rfl (fun w hw => all_ hw) ?_ | refine sd_off3 4 rfl rfl rfl (by kernel_rfl) (by kernel_rfl) (by exact nop_) rfl (fun w hw => all_ hw) ?_
    refine sd_one 5 (by kernel_rfl) (sa_sl 5 rfl ?_)
    repeat refine su_Jr ?_
    refine sl_nil ?_
    refine se_sd (fun _ w hw => all_ hw) ?_
    first | refine sd_yes2 6 rfl (by exact gd_) (by kernel_rfl) (by kernel_rfl) (by exact nop_) (PuI.all (by exact pv_Jr)) rfl (fun w hw => all_ hw) ?_ | refine sd_off2 6 rfl (by exact gd_) (by kernel_rfl) (by kernel_rfl) (by exact nop_) rfl (fun w hw => all_ hw) ?_ | refine sd_off3 6 rfl rfl rfl (by kernel_rfl) (by kernel_rfl) (by exact nop_) rfl (fun w hw => all_ hw) ?_
    refine sd_yes2 7 rfl (by exact gd_) (by kernel_rfl) (by kernel_rfl) (by exact nop_) (PuI.all (by exact pv_Jr)) rfl (fun w hw => all_ hw) ?_
    refine sd_done (by kernel_rfl) ?_
    refine go_Jr ?_
    exact se_ret3 () trivial rfl rfl rfl rfl rfl (by exact sub_)
  | some fp =>
    obtain ⟨f, p⟩ := fp
    obtain ⟨hp1, hp2, hp3, hp4⟩ := takeL_some ht h.okb
    rw [ht, TkA_yes] at htk
    refine sl_call rfl rfl (by kernel_rfl) rfl (by exact sub_) htk ?_
    rintro ⟨P, cp⟩ -
    refine go_Jr ?_
    refine sl_alloc rfl rfl rfl ?_; intro g7
    refine go_Jr ?_
    by_cases hf : ¬ f < 1366
    · rw [show recordL bs k = none from by unfold recordL; rw [ht]; exact if_neg hf, RcA_no]
      refine sd_drawn (fun W => AllP W [blk g7 162 [.int .i64 f, .slice P p.length cp]]) (fun _ => true) (by kernel_rfl) 8 rfl ?_
      refine sd_yes2 0 rfl (by exact gd_) (by kernel_rfl) (by kernel_rfl) (by exact nop_) (PuI.all (by exact pv_Jr)) rfl (fun w hw => all_ hw) ?_
      refine sd_yes2 1 rfl (by exact gd_) (by kernel_rfl) (by kernel_rfl) (by exact nop_) (PuI.all (by exact pv_Jr)) rfl (fun w hw => all_ hw) ?_
      refine sd_yes2 2 rfl (by exact gd_) (by kernel_rfl) (by kernel_rfl) (by exact nop_) (PuI.all (by exact pv_Jr)) rfl (fun w hw => all_ hw) ?_
      first | refine sd_yes2 3 rfl (by exact gd_) (by kernel_rfl) (by kernel_rfl) (by exact nop_) (PuI.all (by exact pv_Jr)) rfl (fun w hw => all_ hw) ?_ | refine sd_off2 3 rfl (by exact gd_) (by kernel_rfl) (by kernel_rfl) (by exact nop_) rfl (fun w hw => all_ hw) ?_ | refine sd_off3 3 rfl rfl rfl (by kernel_rfl) (by kernel_rfl) (by exact nop_) rfl (fun w hw => all_ hw) ?_
      first | refine sd_yes2 4 rfl (by exact gd_) (by kernel_rfl) (by kernel_rfl) (by exact nop_) (PuI.all (by exact pv_Jr)) rfl (fun w hw => all_ hw) ?_ | refine sd_off2 4 rfl (by exact gd_) (by kernel_rfl) (by kernel_rfl) (by exact nop_) rfl (fun w hw => all_ hw) ?_ | refine sd_off3 4 rfl rfl rfl (by kernel_rfl) (by kernel_rfl) (by exact nop_) rfl (fun w hw => all_ hw) ?_
      refine sd_one 5 (by kernel_rfl) (sa_sl 5 rfl ?_)
      repeat refine su_Jr ?_
      refine sl_call rfl rfl (by kernel_rfl) rfl Sub.refl (cells_ok (n := 65536) (by decide)) ?_
      rintro _ -
      rw [show ((manyL 65536 : Nat) : Int) = 1366 from rfl]
      refine sl_nil ?_
      refine se_sd (fun _ w hw => all_ hw) ?_
      first | refine sd_yes2 6 rfl (by exact gd_) (by kernel_rfl) (by kernel_rfl) (by exact nop_) (PuI.all (by exact pv_Jr)) rfl (fun w hw => all_ hw) ?_ | refine sd_off2 6 rfl (by exact gd_) (by kernel_rfl) (by kernel_rfl) (by exact nop_) rfl (fun w hw => all_ hw) ?_ | refine sd_off3 6 rfl rfl rfl (by kernel_rfl) (by kernel_rfl) (by exact nop_) rfl (fun w hw => all_ hw) ?_
      refine sd_yes2 7 rfl (by exact gd_) (by kernel_rfl) (by kernel_rfl) (by exact nop_) (PuI.all (by exact pv_Jr)) rfl (fun w hw => all_ hw) ?_
      refine sd_done (by kernel_rfl) ?_
      refine go_Jr ?_
      exact se_ret3 () trivial rfl rfl rfl rfl rfl (by exact sub_)
    replace hf := Classical.not_not.1 hf
    have hX : recordL bs k = (goL bs k f 0 p).map fun out => (out, f + 1) := by unfold recordL; rw [ht]; exact if_pos hf
    generalize recordL bs k = X at hX ⊢
    refine sc_join (fun _ : Unit => [(0, .slice A n c), (1, .int .i64 k), (7, .pointer (some ⟨g7, 0, none⟩)), (27, .bool false)]) (fun _ => blk g7 162 [.int .i64 f, .slice P p.length cp] :: u8o P cp p :: K) (fun _ => True) ?_ ?_
    · refine sd_drawn (fun W => AllP W [blk g7 162 [.int .i64 f, .slice P p.length cp]]) (fun _ => true) (by kernel_rfl) 8 rfl ?_
      refine sd_yes2 0 rfl (by exact gd_) (by kernel_rfl) (by kernel_rfl) (by exact nop_) (PuI.all (by exact pv_Jr)) rfl (fun w hw => all_ hw) ?_
      refine sd_yes2 1 rfl (by exact gd_) (by kernel_rfl) (by kernel_rfl) (by exact nop_) (PuI.all (by exact pv_Jr)) rfl (fun w hw => all_ hw) ?_
      refine sd_yes2 2 rfl (by exact gd_) (by kernel_rfl) (by kernel_rfl) (by exact nop_) (PuI.all (by exact pv_Jr)) rfl (fun w hw => all_ hw) ?_
      first | refine sd_yes2 3 rfl (by exact gd_) (by kernel_rfl) (by kernel_rfl) (by exact nop_) (PuI.all (by exact pv_Jr)) rfl (fun w hw => all_ hw) ?_ | refine sd_off2 3 rfl (by exact gd_) (by kernel_rfl) (by kernel_rfl) (by exact nop_) rfl (fun w hw => all_ hw) ?_ | refine sd_off3 3 rfl rfl rfl (by kernel_rfl) (by kernel_rfl) (by exact nop_) rfl (fun w hw => all_ hw) ?_
      first | refine sd_yes2 4 rfl (by exact gd_) (by kernel_rfl) (by kernel_rfl) (by exact nop_) (PuI.all (by exact pv_Jr)) rfl (fun w hw => all_ hw) ?_ | refine sd_off2 4 rfl (by exact gd_) (by kernel_rfl) (by kernel_rfl) (by exact nop_) rfl (fun w hw => all_ hw) ?_ | refine sd_off3 4 rfl rfl rfl (by kernel_rfl) (by kernel_rfl) (by exact nop_) rfl (fun w hw => all_ hw) ?_
      refine sd_one 5 (by kernel_rfl) (sa_sl 5 rfl ?_)
      repeat refine su_Jr ?_
      refine sl_call rfl rfl (by kernel_rfl) rfl Sub.refl (cells_ok (n := 65536) (by decide)) ?_
      rintro _ -
      rw [show ((manyL 65536 : Nat) : Int) = 1366 from rfl]
      refine sl_nil ?_
      refine se_sd (fun _ w hw => all_ hw) ?_
      first | refine sd_yes2 6 rfl (by exact gd_) (by kernel_rfl) (by kernel_rfl) (by exact nop_) (PuI.all (by exact pv_Jr)) rfl (fun w hw => all_ hw) ?_ | refine sd_off2 6 rfl (by exact gd_) (by kernel_rfl) (by kernel_rfl) (by exact nop_) rfl (fun w hw => all_ hw) ?_ | refine sd_off3 6 rfl rfl rfl (by kernel_rfl) (by kernel_rfl) (by exact nop_) rfl (fun w hw => all_ hw) ?_
      refine sd_yes2 7 rfl (by exact gd_) (by kernel_rfl) (by kernel_rfl) (by exact nop_) (PuI.all (by exact pv_Jr)) rfl (fun w hw => all_ hw) ?_
      refine sd_done (by kernel_rfl) ?_
      exact se_mid () (by exact has_) (by exact sub_) trivial
    rintro _ -
    refine sc_know (fun w hw => (own_len (e := 5) (size := 1) (A := P) hw (by exact at_)).2) ?_
    rintro ⟨l1, l2⟩
    refine go_Jr ?_
    refine sc_for (fun q : Jg => [(0, .slice A n c), (1, .int .i64 k), (7, .pointer (some ⟨g7, 0, none⟩)), (9, .slice q.A q.out.length q.c), (31, .int .i64 f), (32, .int .i64 q.i)]) (fun q => u8o q.A q.d q.out :: blk g7 162 [.int .i64 f, .slice P p.length cp] :: K) (fun q => q.i ≤ f ∧ X = (goL bs k (f - q.i) q.i q.out).map (fun out => (out, f + 1)) ∧ (q.out.length ≤ q.c ∧ q.c ≤ maxLen) ∧ q.out.length ≤ 48 * (q.i + 1)) (fun q => f - q.i) ⟨0, p, P, cp, cp⟩ (by exact has_) (by exact sub_) ⟨Nat.zero_le _, hX, ⟨l1, l2⟩, by show p.length ≤ 48 * (0 + 1); omega⟩ ?_
    rintro ⟨i, out, B, cb, db⟩ ⟨hi, hgo, hcb, hob⟩
    replace hi : i ≤ f := hi
    replace hgo : X = (goL bs k (f - i) i out).map (fun out => (out, f + 1)) := hgo
    replace hcb : out.length ≤ cb ∧ cb ≤ maxLen := hcb
    have hcb1 := hcb.1
    replace hob : out.length ≤ 48 * (i + 1) := hob
    dsimp only
    clear hX
    by_cases hlt : i < f
    · obtain ⟨left, hleft⟩ : ∃ left, f - i = left + 1 := ⟨f - i - 1, by omega⟩
      rw [hleft] at hgo
      refine go_Jr ?_
      refine sl_pu (pu_build (v := .agg #[.int .i64 (f - i), .slice B out.length cb]) rfl (build_jc _ _ _ _)) rfl ?_
      refine go_Jr ?_
      refine sl_alloc rfl rfl rfl ?_; intro g11
      refine go_Jr ?_
      rw [show (k : Int) + 1 + i = ((k + 1 + i : Nat) : Int) by omega]
      have htk2 := take_ok (h.mono (Z' := blk g11 162 [.int .i64 (f - i), .slice B out.length cb] :: u8o B db out :: blk g7 162 [.int .i64 f, .slice P p.length cp] :: K) (by exact sub_)) (k := k + 1 + i) (by omega)
      cases ht2 : takeL bs (k + 1 + i) with
      | none =>
        rw [show X = none from by rw [hgo, goL, ht2]; rfl, RcA_no]
        rw [ht2, TkA_no] at htk2
        refine sl_call rfl rfl (by kernel_rfl) rfl (by exact sub_) htk2 ?_
        rintro _ -
        refine go_Jr ?_
        refine sl_alloc rfl rfl rfl ?_; intro g12
        refine go_Jr ?_
        exact se_ret3 () trivial rfl rfl rfl rfl rfl (by exact sub_)
      | some fp =>
        obtain ⟨f2, p2⟩ := fp
        obtain ⟨hq1, hq2, hq3, hq4⟩ := takeL_some ht2 h.okb
        rw [ht2, TkA_yes] at htk2
        refine sl_call rfl rfl (by kernel_rfl) rfl (by exact sub_) htk2 ?_
        rintro ⟨B2, cb2⟩ -
        by_cases hc1 : f2 ≠ left
        · rw [show X = none from by rw [hgo, goL, ht2]; simp only [hc1, false_and, if_false]; rfl, RcA_no]
          refine go_Jr ?_
          refine sl_alloc rfl rfl rfl ?_; intro g12
          refine go_Jr ?_
          exact se_ret3 () trivial rfl rfl rfl rfl rfl (by exact sub_)
        replace hc1 := Classical.not_not.1 hc1
        by_cases hc2 : out.length ≠ (i + 1) * 48
        · rw [show X = none from by rw [hgo, goL, ht2]; simp only [hc2, and_false, if_false]; rfl, RcA_no]
          refine go_Jr ?_
          refine sl_alloc rfl rfl rfl ?_; intro g12
          refine go_Jr ?_
          exact se_ret3 () trivial rfl rfl rfl rfl rfl (by exact sub_)
        replace hc2 := Classical.not_not.1 hc2
        rw [goL, ht2] at hgo
        simp only [hc1, hc2, and_self, if_true] at hgo
        rw [show left = f - (i + 1) by omega] at hgo
        refine go_Jr ?_
        refine sl_alloc rfl rfl rfl ?_; intro g12
        refine go_Jr ?_
        by_cases hp0 : p2.length = 0
        · obtain rfl : p2 = [] := List.eq_nil_of_length_eq_zero hp0
          rw [List.append_nil] at hgo
          refine sd_drawn (fun W => AllP W [blk g12 162 [.int .i64 f2, .slice B2 ([] : List Int).length cb2]]) (fun _ => true) (by kernel_rfl) 10 rfl ?_
          refine sd_yes2 0 rfl (by exact gd_) (by kernel_rfl) (by kernel_rfl) (by exact nop_) (PuI.all (by exact pv_Jr)) rfl (fun w hw => all_ hw) ?_
          refine sd_yes2 1 rfl (by exact gd_) (by kernel_rfl) (by kernel_rfl) (by exact nop_) (PuI.all (by exact pv_Jr)) rfl (fun w hw => all_ hw) ?_
          refine sd_yes2 2 rfl (by exact gd_) (by kernel_rfl) (by kernel_rfl) (by exact nop_) (PuI.all (by exact pv_Jr)) rfl (fun w hw => all_ hw) ?_
          refine sd_yes2 3 rfl (by exact gd_) (by kernel_rfl) (by kernel_rfl) (by exact nop_) (PuI.all (by exact pv_Jr)) rfl (fun w hw => all_ hw) ?_
          refine sd_yes2 4 rfl (by exact gd_) (by kernel_rfl) (by kernel_rfl) (by exact nop_) (PuI.all (by exact pv_Jr)) rfl (fun w hw => all_ hw) ?_
          refine sd_yes2 5 rfl (by exact gd_) (by kernel_rfl) (by kernel_rfl) (by exact nop_) (PuI.all (by exact pv_Jr)) rfl (fun w hw => all_ hw) ?_
          refine sd_yes2 6 rfl (by exact gd_) (by kernel_rfl) (by kernel_rfl) (by exact nop_) (PuI.all (by exact pv_Jr)) rfl (fun w hw => all_ hw) ?_
          refine sd_yes2 7 rfl (by exact gd_) (by kernel_rfl) (by kernel_rfl) (by exact nop_) (PuI.all (by exact pv_Jr)) rfl (fun w hw => all_ hw) ?_
          refine sd_one 8 (by kernel_rfl) (sa_sl 8 rfl ?_)
          refine sl_app_none rfl (by omega) rfl rfl Tryz.info5 rfl ?_
          refine sl_nil ?_
          refine se_sd (fun _ w hw => all_ hw) ?_
          refine sd_yes2 9 rfl (by exact gd_) (by kernel_rfl) (by kernel_rfl) (by exact nop_) (PuI.all (by exact pv_Jr)) rfl (fun w hw => all_ hw) ?_
          refine sd_done (by kernel_rfl) ?_
          refine go_Jr ?_
          exact se_round ⟨i + 1, out, B, out.length, db⟩ (by exact has_) (by exact sub_) ⟨hlt, hgo, ⟨Nat.le_refl _, Nat.le_trans hcb.1 hcb.2⟩, by show out.length ≤ 48 * (i + 1 + 1); omega⟩ (by show f - (i + 1) < f - i; omega)
        · refine sd_drawn (fun W => AllP W [blk g12 162 [.int .i64 f2, .slice B2 p2.length cb2]]) (fun _ => true) (by kernel_rfl) 10 rfl ?_
          refine sd_yes2 0 rfl (by exact gd_) (by kernel_rfl) (by kernel_rfl) (by exact nop_) (PuI.all (by exact pv_Jr)) rfl (fun w hw => all_ hw) ?_
          refine sd_yes2 1 rfl (by exact gd_) (by kernel_rfl) (by kernel_rfl) (by exact nop_) (PuI.all (by exact pv_Jr)) rfl (fun w hw => all_ hw) ?_
          refine sd_yes2 2 rfl (by exact gd_) (by kernel_rfl) (by kernel_rfl) (by exact nop_) (PuI.all (by exact pv_Jr)) rfl (fun w hw => all_ hw) ?_
          refine sd_yes2 3 rfl (by exact gd_) (by kernel_rfl) (by kernel_rfl) (by exact nop_) (PuI.all (by exact pv_Jr)) rfl (fun w hw => all_ hw) ?_
          refine sd_yes2 4 rfl (by exact gd_) (by kernel_rfl) (by kernel_rfl) (by exact nop_) (PuI.all (by exact pv_Jr)) rfl (fun w hw => all_ hw) ?_
          refine sd_yes2 5 rfl (by exact gd_) (by kernel_rfl) (by kernel_rfl) (by exact nop_) (PuI.all (by exact pv_Jr)) rfl (fun w hw => all_ hw) ?_
          refine sd_yes2 6 rfl (by exact gd_) (by kernel_rfl) (by kernel_rfl) (by exact nop_) (PuI.all (by exact pv_Jr)) rfl (fun w hw => all_ hw) ?_
          refine sd_yes2 7 rfl (by exact gd_) (by kernel_rfl) (by kernel_rfl) (by exact nop_) (PuI.all (by exact pv_Jr)) rfl (fun w hw => all_ hw) ?_
          refine sd_one 8 (by kernel_rfl) (sa_sl 8 rfl ?_)
          refine sl_app_full rfl (Vw.of_own (e := 5) (c := db) (by exact at_)) (by omega) rfl (Vw.of_own (e := 5) (c := cb2) (by exact at_)) (by omega) rfl Tryz.info5 (by decide) rfl (by unfold maxLen; omega) (by omega) ?_
          intro g3 c3
          rw [← bytes_app, ← List.length_append]
          refine sl_know (fun w hw => (own_len (e := 5) (size := 1) (A := some ⟨g3, 0, none⟩) hw (by exact at_)).2) ?_
          rintro ⟨l3, l4⟩
          refine sl_nil ?_
          refine se_sd (fun _ w hw => all_ hw) ?_
          refine sd_yes2 9 rfl (by exact gd_) (by kernel_rfl) (by kernel_rfl) (by exact nop_) (PuI.all (by exact pv_Jr)) rfl (fun w hw => all_ hw) ?_
          refine sd_done (by kernel_rfl) ?_
          refine go_Jr ?_
          exact se_round ⟨i + 1, out ++ p2, some ⟨g3, 0, none⟩, c3, c3⟩ (by exact has_) (by exact sub_) ⟨hlt, hgo, ⟨l3, l4⟩, by show (out ++ p2).length ≤ 48 * (i + 1 + 1); rw [List.length_append]; omega⟩ (by show f - (i + 1) < f - i; omega)
    obtain rfl : i = f := by omega
    rw [Nat.sub_self, goL] at hgo
    rw [show X = some (out, i + 1) from hgo, RcA_yes, show ((i + 1 : Nat) : Int) = (i : Int) + 1 by omega]
    refine go_Jr ?_
    ((refine sq_region (by kernel_rfl) (by kernel_rfl) ?_; (repeat refine rq_Jr ?_); refine sq_end ?_))
    refine go_Jr ?_
    exact se_ret3 (B, cb, db) hcb rfl rfl rfl rfl rfl (by exact sub_)
end Go.Proofs.YtocaabnbmcpjmaaGreatDoor
/- A journal read whole: Scan. -/
namespace Go.Proofs.YtocaabnbmcpjmaaGreatDoor
open Go.RowKit
attribute [local irreducible] Go.Calls Go.Exit.then Go.Exit.inBlock Go.bodyPost Go.Code.wp Go.wpList takeL recordL
/-- A slice of bytes in memory of its own. -/
structure Sx where
  A : Option Addr
  c : Nat
  d : Nat
  l : List Int
def Sx.v (s : Sx) : Value := .slice s.A s.l.length s.c
abbrev Sx.fa (s : Sx) : Fa := u8o s.A s.d s.l
def Sx.ok (s : Sx) : Prop := (s.l.length ≤ s.c ∧ s.c ≤ maxLen) ∧ s.l.length ≤ 1000000 ∧ IsBytes s.l
def sxO (xs : List Sx) : List Fa := xs.map Sx.fa
def sxV (xs : List Sx) : List Value := xs.map Sx.v
theorem star_snoc {f : Fa} {G K : List Fa} : Ent_ (f :: star G :: K) (star (G ++ [f]) :: K) := fun w hw => by
  refine star_in w ?_
  rw [List.append_assoc, List.singleton_append]
  refine (pick_mid G).back w ?_
  have h1 : Sep w (star G :: f :: K) := hw.sub (.cons (.there .here) (.cons .here .refl))
  exact (pick_mid G).out w ((pick_mid G).back w ((Ent_.trans star_out (fun w hw => hw) w h1 : Sep w (G ++ f :: K)) |> (pick_mid G).out w))
/-- The records one behind the other: those that n steps find. -/
def chainL (bs : List Int) : Nat → Option (Nat × List (List Int))
  | 0 => some (0, [])
  | n + 1 => match chainL bs n with
    | some (k, out) => match recordL bs k with
      | some (x, m) => some (k + m, out ++ [x])
      | none => none
    | none => none
theorem chain_none {bs : List Int} {n : Nat} (h : chainL bs n = none) : ∀ j, chainL bs (n + j) = none
  | 0 => h
  | j + 1 => by rw [← Nat.add_assoc, chainL, chain_none h j]
theorem chain_end {bs : List Int} {n n' k k' : Nat} {out out' : List (List Int)} (h : chainL bs n = some (k, out)) (h2 : recordL bs k = none) (h' : chainL bs n' = some (k', out')) (h2' : recordL bs k' = none) : k = k' ∧ out = out' := by
  have e1 : chainL bs (n + 1) = none := by rw [chainL, h]; simp only [h2]
  have e2 : chainL bs (n' + 1) = none := by rw [chainL, h']; simp only [h2']
  rcases Nat.lt_trichotomy n n' with hl | hl | hl
  · have := chain_none e1 (n' - (n + 1))
    rw [show n + 1 + (n' - (n + 1)) = n' by omega, h'] at this
    cases this
  · subst hl
    rw [h] at h'
    injection h' with h'
    injection h' with a b
    exact ⟨a, b⟩
  · have := chain_none e2 (n - (n' + 1))
    rw [show n' + 1 + (n - (n' + 1)) = n by omega, h] at this
    cases this
theorem goL_some {bs : List Int} {k : Nat} (hb : IsBytes bs) : ∀ {left i : Nat} {out r : List Int}, goL bs k left i out = some r → IsBytes out → out.length ≤ 48 * (i + 1) → (k + 1 + i) * 64 ≤ bs.length → IsBytes r ∧ r.length ≤ 48 * (i + left + 1) ∧ (k + 1 + i + left) * 64 ≤ bs.length
  | 0, i, out, r, h, h1, h2, h3 => by
    rw [goL] at h
    injection h with h
    subst h
    exact ⟨h1, h2, h3⟩
  | left + 1, i, out, r, h, h1, h2, h3 => by
    rw [goL] at h
    cases ht : takeL bs (k + 1 + i) with
    | none => rw [ht] at h; cases h
    | some fp =>
      obtain ⟨f, p⟩ := fp
      rw [ht] at h
      obtain ⟨t1, t2, t3, t4⟩ := takeL_some ht hb
      clear ht
      by_cases hc : f = left ∧ out.length = (i + 1) * 48
      · replace h : goL bs k left (i + 1) (out ++ p) = some r := (if_pos hc).symm.trans h
        have e1 : (out ++ p).length ≤ 48 * (i + 1 + 1) := by rw [List.length_append]; omega
        have e2 : (k + 1 + (i + 1)) * 64 ≤ bs.length := by omega
        have r := goL_some (bs := bs) (k := k) hb (left := left) (i := i + 1) (out := out ++ p) (r := r) h (IsBytes.app h1 t3) e1 e2
        obtain ⟨r1, r2, r3⟩ := r
        refine ⟨r1, ?_, ?_⟩
        · clear r3 e1 e2 t4 h3 h2 t1 t2 hc h; omega
        · clear r2 e1 e2 t4 h3 h2 t1 t2 hc h; omega
      · have h' : none = some r := (if_neg hc).symm.trans h
        cases h'
attribute [local semireducible] recordL in
theorem recordL_some {bs : List Int} {k m : Nat} {x : List Int} (h : recordL bs k = some (x, m)) (hb : IsBytes bs) : 1 ≤ m ∧ m ≤ 1366 ∧ (k + m) * 64 ≤ bs.length ∧ x.length ≤ 48 * m ∧ IsBytes x := by
  unfold recordL at h
  split at h
  · rename_i f p ht
    obtain ⟨t1, t2, t3, t4⟩ := takeL_some ht hb
    split at h
    · cases hg : goL bs k f 0 p with
      | none => rw [hg] at h; cases h
      | some r =>
        rw [hg] at h
        injection h with h
        injection h with a b
        subst a b
        obtain ⟨g1, g2, g3⟩ := goL_some hb hg t3 (by omega) (by omega)
        exact ⟨by omega, by omega, by omega, by omega, g1⟩
    · cases h
  · cases h
def tornB (bs : List Int) (a : Nat) : Nat → Bool
  | 0 => false
  | k + 1 => tornB bs a k || (takeL bs (a + k)).isNone
def haltB (bs : List Int) (a : Nat) : Nat → Bool
  | 0 => false
  | k + 1 => haltB bs a k || ((takeL bs (a + k)).isSome && tornB bs a k)
/-- How many cells, the last one cut or not. -/
def cutN (bs : List Int) : Nat := (bs.length + 63) / 64
end Go.Proofs.YtocaabnbmcpjmaaGreatDoor
