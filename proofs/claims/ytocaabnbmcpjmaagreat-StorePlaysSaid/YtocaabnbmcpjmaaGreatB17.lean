/- Several texts of one claim, one behind the other. -/
import Derived.Test.YtocaabnbmcpjmaaGreatB16
set_option linter.unusedVariables false
set_option linter.unusedSimpArgs false
set_option maxRecDepth 100000
set_option maxHeartbeats 16000000
namespace Go.Proofs.YtocaabnbmcpjmaaGreat
variable {φ ψ : Prop}
section
open Go.RowKit Go.Sort
attribute [local irreducible] Go.Calls Go.Exit.then Go.Exit.inBlock Go.bodyPost Go.Code.wp Go.wpList
section
theorem scanUp_out {p : Int → Bool} {d : Array Int} {i j : Nat} (h : ¬ i ≤ j) : scanUp p d j i = i := by rw [scanUp, if_neg (by simp [h])]
theorem scanUp_stop {p : Int → Bool} {d : Array Int} {i j : Nat} (h : p d[i]! = false) : scanUp p d j i = i := by rw [scanUp, if_neg (by simp [h])]
theorem scanUp_go {p : Int → Bool} {d : Array Int} {i j : Nat} (h1 : i ≤ j) (h : p d[i]! = true) : scanUp p d j i = scanUp p d j (i + 1) := by rw [scanUp, if_pos (by simp [h1, h])]
theorem scanDown_out {p : Int → Bool} {d : Array Int} {i j : Nat} (h : ¬ i ≤ j) : scanDown p d i j = j := by
 cases j with
 | zero => rfl
 | succ j => rw [scanDown, if_neg (by simp [h])]
theorem scanDown_stop {p : Int → Bool} {d : Array Int} {i j : Nat} (h : p d[j]! = false) : scanDown p d i j = j := by
 cases j with
 | zero => rfl
 | succ j => rw [scanDown, if_neg (by simp [h])]
theorem scanDown_go {p : Int → Bool} {d : Array Int} {i j : Nat} (h1 : i ≤ j + 1) (h : p d[j + 1]! = true) : scanDown p d i (j + 1) = scanDown p d i j := by rw [scanDown, if_pos (by simp [h1, h])]
open pQa
theorem o1_Qd (k : ψ) (h : Hide ψ → φ := by (intro k; refine dr_ [] 16 ?_; exact k.out)) : φ := h ⟨k⟩
theorem o2_Qd (k : ψ) (h : Hide ψ → φ := by (intro k; refine wy_ 0 ?_; exact k.out)) : φ := h ⟨k⟩
theorem o3_Qd (k : ψ) (h : Hide ψ → φ := by (intro k; refine wy_ 1 ?_; exact k.out)) : φ := h ⟨k⟩
theorem o4_Qd (k : ψ) (h : Hide ψ → φ := by (intro k; refine wy_ 2 ?_; exact k.out)) : φ := h ⟨k⟩
theorem o5_Qd (k : ψ) (h : Hide ψ → φ := by (intro k; refine wy_ 3 ?_; exact k.out)) : φ := h ⟨k⟩
theorem o6_Qd (k : ψ) (h : Hide ψ → φ := by (intro k; refine wy_ 4 ?_; exact k.out)) : φ := h ⟨k⟩
theorem o7_Qd (k : ψ) (h : Hide ψ → φ := by (intro k; refine wy_ 5 ?_; exact k.out)) : φ := h ⟨k⟩
theorem o8_Qd (k : ψ) (h : Hide ψ → φ := by (intro k; refine wy_ 6 ?_; exact k.out)) : φ := h ⟨k⟩
theorem o9_Qd (k : ψ) (h : Hide ψ → φ := by (intro k; refine wy_ 8 ?_; exact k.out)) : φ := h ⟨k⟩
theorem o10_Qd (k : ψ) (h : Hide ψ → φ := by (intro k; refine wy_ 9 ?_; exact k.out)) : φ := h ⟨k⟩
theorem o11_Qd (k : ψ) (h : Hide ψ → φ := by (intro k; refine wy_ 10 ?_; exact k.out)) : φ := h ⟨k⟩
theorem o12_Qd (k : ψ) (h : Hide ψ → φ := by (intro k; refine sx_yes 7 rfl gd_ (by kernel_rfl) (by kernel_rfl) nop_ (PuI.sep (by exact pv_)) rfl (fun _ h => h) ?_; exact k.out)) : φ := h ⟨k⟩
theorem o13_Qd (k : ψ) (h : Hide ψ → φ := by (intro k; refine sx_yes 11 rfl gd_ (by kernel_rfl) (by kernel_rfl) nop_ (PuI.sep (by exact pv_)) rfl (fun _ h => h) ?_; exact k.out)) : φ := h ⟨k⟩
theorem o14_Qd (k : ψ) (h : Hide ψ → φ := by (intro k; refine se_sd (fun _ _ _ => trivial) ?_; exact k.out)) : φ := h ⟨k⟩
theorem o15_Qd (k : ψ) (h : Hide ψ → φ := by (intro k; refine sq_region (by kernel_rfl) (by kernel_rfl) ?_; exact k.out)) : φ := h ⟨k⟩
theorem o16_Qd (k : ψ) (h : Hide ψ → φ := by (intro k; refine WQ_call rfl rfl (by kernel_rfl) rfl (qless_ok (lt_k (by omega) (by omega) hl)) ?_; exact k.out)) : φ := h ⟨k⟩
theorem part_ok {K : List Fa} {g n c : Nat} {d : Array Int} {a b p : Nat} (hd : d.size = n) (hab : a < b) (hb : b ≤ n) (hp : a ≤ p ∧ p < b) (hn : n ≤ 1000000) :
  Fn Tryz.prog 184 #[.slice (some ⟨g, 0, none⟩) n c, .int .i64 (a : Nat), .int .i64 (b : Nat), .int .i64 (p : Nat)] (uo g n c d :: K) (Ret (fun _ : Unit => True) (fun _ => .tuple #[.int .i64 ((partition ltInt d a b p).1 : Nat), .bool (partition ltInt d a b p).2.1]) (fun _ => uo g n c (partition ltInt d a b p).2.2 :: K)) := by
 refine fe_ Tryz.func184 Tryz.ntmps184 [(0, .slice (some ⟨g, 0, none⟩) n c), (1, .int .i64 (a : Nat)), (2, .int .i64 (b : Nat)), (3, .int .i64 (p : Nat))] ?_
 generalize hT : partition ltInt d a b p = T
 unfold partition at hT
 dsimp only at hT
 refine go_ ?_; refine o1_Qd ?_; refine o2_Qd ?_; refine o3_Qd ?_; refine o4_Qd ?_; refine o5_Qd ?_; refine o6_Qd ?_; refine o7_Qd ?_; refine o8_Qd ?_; refine o9_Qd ?_; refine o10_Qd ?_; refine o11_Qd ?_; refine sd_batch (fun i => [7, 11].contains i) ?_; refine o12_Qd ?_; refine o13_Qd ?_; refine sx_rest (by kernel_rfl) ?_; refine sd_one 12 (by kernel_rfl) (sa_sl 12 rfl ?_)
 repeat refine su_ ?_
 refine sl_nil ?_; refine o14_Qd ?_; refine sd_one 13 (by kernel_rfl) (sa_sl 13 rfl ?_); refine sl_sto2 (i := a) rfl (at1k (by omega)) pick_ rfl rfl rfl (by omega) ?_; refine sl_nil ?_; refine o14_Qd ?_; refine sd_one 14 (by kernel_rfl) (sa_sl 14 rfl ?_)
 repeat refine su_ ?_
 refine sl_nil ?_; refine o14_Qd ?_; refine sd_one 15 (by kernel_rfl) (sa_sl 15 rfl ?_); refine sl_swp (i := a) (j := p) rfl (at1k (by omega)) pick_ rfl (get_k (by omega)) (get_k (by omega)) rfl (by omega) ?_; refine sl_nil ?_; refine o14_Qd ?_; refine sd_done (by kernel_rfl) ?_
 have hds := swp_sz hd a p
 generalize swp d a p = d1 at hds hT ⊢
 refine go_ ?_; rw [show ((a : Int) + 1) = ((a + 1 : Nat) : Int) by omega, show ((b : Int) - 1) = ((b - 1 : Nat) : Int) by omega]; refine sc_bjoin (α := Nat) (fun i => [(0, .slice (some ⟨g, 0, none⟩) n c), (1, .int .i64 a), (10, .int .i64 (i : Nat)), (11, .int .i64 ((b - 1) : Nat))]) (fun _ => uo g n c d1 :: K) (fun i => i = scanUp (fun x => ltInt x d1[a]!) d1 (b - 1) (a + 1)) ?_ ?_
 ·refine sc_for (α := Nat) (fun i => [(0, .slice (some ⟨g, 0, none⟩) n c), (1, .int .i64 a), (10, .int .i64 (i : Nat)), (11, .int .i64 ((b - 1) : Nat))]) (fun _ => uo g n c d1 :: K) (fun i => (a + 1) ≤ i ∧ scanUp (fun x => ltInt x d1[a]!) d1 (b - 1) i = scanUp (fun x => ltInt x d1[a]!) d1 (b - 1) (a + 1)) (fun i => (b - 1) + 1 - i) ((a + 1)) has_ sub_ ⟨Nat.le_refl _, rfl⟩ ?_; rintro i ⟨hi, hS⟩
  by_cases h1 : i ≤ (b - 1)
  case neg =>
   refine go_ ?_; refine o15_Qd ?_
   repeat refine rq_ ?_
   refine sq_end ?_; refine go_ ?_; exact se_mid i has_ sub_ (by rw [← hS, scanUp_out h1])
  cases hl : ltInt d1[i]! d1[a]! with
  | false =>
   refine go_ ?_; refine o15_Qd ?_
   repeat refine rq_ ?_
   refine o16_Qd ?_
   repeat refine rq_ ?_
   refine sq_end ?_; refine go_ ?_; exact se_mid i has_ sub_ (by rw [← hS, scanUp_stop (by simp [hl])])
  | true =>
   refine go_ ?_; refine o15_Qd ?_
   repeat refine rq_ ?_
   refine o16_Qd ?_
   repeat refine rq_ ?_
   refine sq_end ?_; refine go_ ?_; exact se_round (i + 1) has_ sub_ ⟨by omega, by rw [← hS]; exact (scanUp_go h1 (by simp [hl])).symm⟩ (by omega)
 rintro i1 hi1
 have hi1' := scanUp_ge (fun x => ltInt x d1[a]!) d1 (b - 1) (a + 1)
 rw [← hi1] at hT hi1'
 clear hi1
 refine go_ ?_; refine sc_bjoin (α := Nat) (fun i => [(0, .slice (some ⟨g, 0, none⟩) n c), (1, .int .i64 a), (10, .int .i64 (i1 : Nat)), (11, .int .i64 (i : Nat))]) (fun _ => uo g n c d1 :: K) (fun i => i = scanDown (fun x => !ltInt x d1[a]!) d1 i1 (b - 1)) ?_ ?_
 ·refine sc_for (α := Nat) (fun i => [(0, .slice (some ⟨g, 0, none⟩) n c), (1, .int .i64 a), (10, .int .i64 (i1 : Nat)), (11, .int .i64 (i : Nat))]) (fun _ => uo g n c d1 :: K) (fun i => i ≤ (b - 1) ∧ scanDown (fun x => !ltInt x d1[a]!) d1 i1 i = scanDown (fun x => !ltInt x d1[a]!) d1 i1 (b - 1)) (fun i => i) ((b - 1)) has_ sub_ ⟨Nat.le_refl _, rfl⟩ ?_; rintro i ⟨hi, hS⟩
  by_cases h1 : i1 ≤ i
  case neg =>
   refine go_ ?_; refine o15_Qd ?_
   repeat refine rq_ ?_
   refine sq_end ?_; refine go_ ?_; exact se_mid i has_ sub_ (by rw [← hS, scanDown_out h1])
  obtain ⟨i, rfl⟩ : ∃ k, i = k + 1 := ⟨i - 1, by omega⟩
  cases hl : ltInt d1[i + 1]! d1[a]! with
  | true =>
   refine go_ ?_; refine o15_Qd ?_
   repeat refine rq_ ?_
   refine o16_Qd ?_
   repeat refine rq_ ?_
   refine sq_end ?_; refine go_ ?_; exact se_mid (i + 1) has_ sub_ (by rw [← hS, scanDown_stop (by simp [hl])])
  | false =>
   refine go_ ?_; refine o15_Qd ?_
   repeat refine rq_ ?_
   refine o16_Qd ?_
   repeat refine rq_ ?_
   refine sq_end ?_; refine go_ ?_; rw [show (((i + 1 : Nat) : Int) - 1) = (i : Int) by omega]; exact se_round i has_ sub_ ⟨by omega, by rw [← hS]; exact (scanDown_go h1 (by simp [hl])).symm⟩ (by omega)
 rintro j1 hj1
 have hj1' := scanDown_le (fun x => !ltInt x d1[a]!) d1 i1 (b - 1)
 rw [← hj1] at hT hj1'
 clear hj1
 by_cases hij : i1 > j1
 ·rw [if_pos hij] at hT
  subst hT; dsimp only; refine go_ ?_; refine o1_Qd ?_; refine o2_Qd ?_; refine o3_Qd ?_; refine o4_Qd ?_; refine o5_Qd ?_; refine o6_Qd ?_; refine o7_Qd ?_; refine o8_Qd ?_; refine o9_Qd ?_; refine o10_Qd ?_; refine o11_Qd ?_; refine sd_batch (fun i => [7, 11].contains i) ?_; refine o12_Qd ?_; refine o13_Qd ?_; refine sx_rest (by kernel_rfl) ?_; refine sd_one 12 (by kernel_rfl) (sa_sl 12 rfl ?_)
  repeat refine su_ ?_
  refine sl_nil ?_; refine o14_Qd ?_; refine sd_one 13 (by kernel_rfl) (sa_sl 13 rfl ?_); refine sl_sto2 (i := j1) rfl (at1k (by omega)) pick_ rfl rfl rfl (by omega) ?_; refine sl_nil ?_; refine o14_Qd ?_; refine sd_one 14 (by kernel_rfl) (sa_sl 14 rfl ?_)
  repeat refine su_ ?_
  refine sl_nil ?_; refine o14_Qd ?_; refine sd_one 15 (by kernel_rfl) (sa_sl 15 rfl ?_); refine sl_swp (i := j1) (j := a) rfl (at1k (by omega)) pick_ rfl (get_k (by omega)) (get_k (by omega)) rfl (by omega) ?_; refine sl_nil ?_; refine o14_Qd ?_; refine sd_done (by kernel_rfl) ?_; refine go_ ?_; exact r2_ ()
 rw [if_neg hij] at hT
 refine go_ ?_; refine o1_Qd ?_; refine o2_Qd ?_; refine o3_Qd ?_; refine o4_Qd ?_; refine o5_Qd ?_; refine o6_Qd ?_; refine o7_Qd ?_; refine o8_Qd ?_; refine o9_Qd ?_; refine o10_Qd ?_; refine o11_Qd ?_; refine sd_batch (fun i => [7, 11].contains i) ?_; refine o12_Qd ?_; refine o13_Qd ?_; refine sx_rest (by kernel_rfl) ?_; refine sd_one 12 (by kernel_rfl) (sa_sl 12 rfl ?_)
 repeat refine su_ ?_
 refine sl_nil ?_; refine o14_Qd ?_; refine sd_one 13 (by kernel_rfl) (sa_sl 13 rfl ?_); refine sl_sto2 (i := i1) rfl (at1k (by omega)) pick_ rfl rfl rfl (by omega) ?_; refine sl_nil ?_; refine o14_Qd ?_; refine sd_one 14 (by kernel_rfl) (sa_sl 14 rfl ?_)
 repeat refine su_ ?_
 refine sl_nil ?_; refine o14_Qd ?_; refine sd_one 15 (by kernel_rfl) (sa_sl 15 rfl ?_); refine sl_swp (i := i1) (j := j1) rfl (at1k (by omega)) pick_ rfl (get_k (by omega)) (get_k (by omega)) rfl (by omega) ?_; refine sl_nil ?_; refine o14_Qd ?_; refine sd_done (by kernel_rfl) ?_
 have hds2 := swp_sz hds i1 j1
 generalize swp d1 i1 j1 = d2 at hds2 hT ⊢
 refine go_ ?_; rw [show ((i1 : Int) + 1) = ((i1 + 1 : Nat) : Int) by omega, show ((j1 : Int) - 1) = ((j1 - 1 : Nat) : Int) by omega]; refine sc_bjoin (α := Nat × Array Int) (fun q => [(0, .slice (some ⟨g, 0, none⟩) n c), (1, .int .i64 a), (11, .int .i64 q.1)]) (fun q => uo g n c q.2 :: K) (fun q => q.2.size = n ∧ q.1 < n ∧ (q.1, false, swp q.2 q.1 a) = T) ?_ ?_
 ·refine sc_for (α := Nat × Nat × Array Int) (fun q => [(0, .slice (some ⟨g, 0, none⟩) n c), (1, .int .i64 a), (10, .int .i64 (q.1 : Nat)), (11, .int .i64 (q.2.1 : Nat))]) (fun q => uo g n c q.2.2 :: K) (fun q => q.2.2.size = n ∧ a + 1 ≤ q.1 ∧ q.2.1 < n ∧ ((partLoop ltInt a q.1 q.2.1 q.2.2).1, false, swp (partLoop ltInt a q.1 q.2.1 q.2.2).2 (partLoop ltInt a q.1 q.2.1 q.2.2).1 a) = T) (fun q => q.2.1 + 1 - q.1) (i1 + 1, j1 - 1, d2) has_ sub_ ⟨hds2, by dsimp only; omega, by dsimp only; omega, hT⟩ ?_; rintro ⟨i2, j2, e⟩ ⟨hes, hi2, hj2, heT⟩
  dsimp only at hes hi2 hj2 heT ⊢
  rw [partLoop_eq] at heT
  refine go_ ?_; refine sc_bjoin (α := Nat) (fun i => [(0, .slice (some ⟨g, 0, none⟩) n c), (1, .int .i64 a), (10, .int .i64 (i : Nat)), (11, .int .i64 (j2 : Nat))]) (fun _ => uo g n c e :: K) (fun i => i = scanUp (fun x => ltInt x e[a]!) e j2 i2) ?_ ?_
  ·refine sc_for (α := Nat) (fun i => [(0, .slice (some ⟨g, 0, none⟩) n c), (1, .int .i64 a), (10, .int .i64 (i : Nat)), (11, .int .i64 (j2 : Nat))]) (fun _ => uo g n c e :: K) (fun i => i2 ≤ i ∧ scanUp (fun x => ltInt x e[a]!) e j2 i = scanUp (fun x => ltInt x e[a]!) e j2 i2) (fun i => j2 + 1 - i) (i2) has_ sub_ ⟨Nat.le_refl _, rfl⟩ ?_; rintro i ⟨hi, hS⟩
   by_cases h1 : i ≤ j2
   case neg =>
    refine go_ ?_; refine o15_Qd ?_
    repeat refine rq_ ?_
    refine sq_end ?_; refine go_ ?_; exact se_mid i has_ sub_ (by rw [← hS, scanUp_out h1])
   cases hl : ltInt e[i]! e[a]! with
   | false =>
    refine go_ ?_; refine o15_Qd ?_
    repeat refine rq_ ?_
    refine o16_Qd ?_
    repeat refine rq_ ?_
    refine sq_end ?_; refine go_ ?_; exact se_mid i has_ sub_ (by rw [← hS, scanUp_stop (by simp [hl])])
   | true =>
    refine go_ ?_; refine o15_Qd ?_
    repeat refine rq_ ?_
    refine o16_Qd ?_
    repeat refine rq_ ?_
    refine sq_end ?_; refine go_ ?_; exact se_round (i + 1) has_ sub_ ⟨by omega, by rw [← hS]; exact (scanUp_go h1 (by simp [hl])).symm⟩ (by omega)
  rintro i3 hi3
  have hi3' := scanUp_ge (fun x => ltInt x e[a]!) e j2 i2
  rw [← hi3] at heT hi3'
  clear hi3
  refine go_ ?_; refine sc_bjoin (α := Nat) (fun i => [(0, .slice (some ⟨g, 0, none⟩) n c), (1, .int .i64 a), (10, .int .i64 (i3 : Nat)), (11, .int .i64 (i : Nat))]) (fun _ => uo g n c e :: K) (fun i => i = scanDown (fun x => !ltInt x e[a]!) e i3 j2) ?_ ?_
  ·refine sc_for (α := Nat) (fun i => [(0, .slice (some ⟨g, 0, none⟩) n c), (1, .int .i64 a), (10, .int .i64 (i3 : Nat)), (11, .int .i64 (i : Nat))]) (fun _ => uo g n c e :: K) (fun i => i ≤ j2 ∧ scanDown (fun x => !ltInt x e[a]!) e i3 i = scanDown (fun x => !ltInt x e[a]!) e i3 j2) (fun i => i) (j2) has_ sub_ ⟨Nat.le_refl _, rfl⟩ ?_; rintro i ⟨hi, hS⟩
   by_cases h1 : i3 ≤ i
   case neg =>
    refine go_ ?_; refine o15_Qd ?_
    repeat refine rq_ ?_
    refine sq_end ?_; refine go_ ?_; exact se_mid i has_ sub_ (by rw [← hS, scanDown_out h1])
   obtain ⟨i, rfl⟩ : ∃ k, i = k + 1 := ⟨i - 1, by omega⟩
   cases hl : ltInt e[i + 1]! e[a]! with
   | true =>
    refine go_ ?_; refine o15_Qd ?_
    repeat refine rq_ ?_
    refine o16_Qd ?_
    repeat refine rq_ ?_
    refine sq_end ?_; refine go_ ?_; exact se_mid (i + 1) has_ sub_ (by rw [← hS, scanDown_stop (by simp [hl])])
   | false =>
    refine go_ ?_; refine o15_Qd ?_
    repeat refine rq_ ?_
    refine o16_Qd ?_
    repeat refine rq_ ?_
    refine sq_end ?_; refine go_ ?_; rw [show (((i + 1 : Nat) : Int) - 1) = (i : Int) by omega]; exact se_round i has_ sub_ ⟨by omega, by rw [← hS]; exact (scanDown_go h1 (by simp [hl])).symm⟩ (by omega)
  rintro j3 hj3
  have hj3' := scanDown_le (fun x => !ltInt x e[a]!) e i3 j2
  rw [← hj3] at heT hj3'
  clear hj3
  by_cases hij2 : i3 > j3
  ·rw [if_pos hij2] at heT
   refine go_ ?_; exact se_mid (j3, e) has_ sub_ ⟨hes, by dsimp only; omega, heT⟩
  rw [if_neg hij2] at heT
  refine go_ ?_; refine o1_Qd ?_; refine o2_Qd ?_; refine o3_Qd ?_; refine o4_Qd ?_; refine o5_Qd ?_; refine o6_Qd ?_; refine o7_Qd ?_; refine o8_Qd ?_; refine o9_Qd ?_; refine o10_Qd ?_; refine o11_Qd ?_; refine sd_batch (fun i => [7, 11].contains i) ?_; refine o12_Qd ?_; refine o13_Qd ?_; refine sx_rest (by kernel_rfl) ?_; refine sd_one 12 (by kernel_rfl) (sa_sl 12 rfl ?_)
  repeat refine su_ ?_
  refine sl_nil ?_; refine o14_Qd ?_; refine sd_one 13 (by kernel_rfl) (sa_sl 13 rfl ?_); refine sl_sto2 (i := i3) rfl (at1k (by omega)) pick_ rfl rfl rfl (by omega) ?_; refine sl_nil ?_; refine o14_Qd ?_; refine sd_one 14 (by kernel_rfl) (sa_sl 14 rfl ?_)
  repeat refine su_ ?_
  refine sl_nil ?_; refine o14_Qd ?_; refine sd_one 15 (by kernel_rfl) (sa_sl 15 rfl ?_); refine sl_swp (i := i3) (j := j3) rfl (at1k (by omega)) pick_ rfl (get_k (by omega)) (get_k (by omega)) rfl (by omega) ?_; refine sl_nil ?_; refine o14_Qd ?_; refine sd_done (by kernel_rfl) ?_; refine go_ ?_; rw [show ((i3 : Int) + 1) = ((i3 + 1 : Nat) : Int) by omega, show ((j3 : Int) - 1) = ((j3 - 1 : Nat) : Int) by omega]; exact se_round (i3 + 1, j3 - 1, swp e i3 j3) has_ sub_ ⟨swp_sz hes _ _, by dsimp only; omega, by dsimp only; omega, heT⟩ (by dsimp only; omega)
 rintro ⟨j4, e4⟩ ⟨hes4, hj4, heT4⟩; subst heT4
 dsimp only at hes4 hj4 ⊢
 refine go_ ?_; refine o1_Qd ?_; refine o2_Qd ?_; refine o3_Qd ?_; refine o4_Qd ?_; refine o5_Qd ?_; refine o6_Qd ?_; refine o7_Qd ?_; refine o8_Qd ?_; refine o9_Qd ?_; refine o10_Qd ?_; refine o11_Qd ?_; refine sd_batch (fun i => [7, 11].contains i) ?_; refine o12_Qd ?_; refine o13_Qd ?_; refine sx_rest (by kernel_rfl) ?_; refine sd_one 12 (by kernel_rfl) (sa_sl 12 rfl ?_)
 repeat refine su_ ?_
 refine sl_nil ?_; refine o14_Qd ?_; refine sd_one 13 (by kernel_rfl) (sa_sl 13 rfl ?_); refine sl_sto2 (i := j4) rfl (at1k (by omega)) pick_ rfl rfl rfl (by omega) ?_; refine sl_nil ?_; refine o14_Qd ?_; refine sd_one 14 (by kernel_rfl) (sa_sl 14 rfl ?_)
 repeat refine su_ ?_
 refine sl_nil ?_; refine o14_Qd ?_; refine sd_one 15 (by kernel_rfl) (sa_sl 15 rfl ?_); refine sl_swp (i := j4) (j := a) rfl (at1k (by omega)) pick_ rfl (get_k (by omega)) (get_k (by omega)) rfl (by omega) ?_; refine sl_nil ?_; refine o14_Qd ?_; refine sd_done (by kernel_rfl) ?_; refine go_ ?_; exact r2_ ()
end
section
open pQa
theorem o1_Qe (k : ψ) (h : Hide ψ → φ := by (intro k; refine sq_region (by kernel_rfl) (by kernel_rfl) ?_; exact k.out)) : φ := h ⟨k⟩
theorem o2_Qe (k : ψ) (h : Hide ψ → φ := by (intro k; refine WQ_call rfl rfl (by kernel_rfl) rfl (qless_ok (lt_k (by omega) (by omega) hl)) ?_; exact k.out)) : φ := h ⟨k⟩
theorem parteq_ok {K : List Fa} {g n c : Nat} {d : Array Int} {a b p : Nat} (hd : d.size = n) (hab : a < b) (hb : b ≤ n) (hp : a ≤ p ∧ p < b) (hn : n ≤ 1000000) :
  Fn Tryz.prog 183 #[.slice (some ⟨g, 0, none⟩) n c, .int .i64 (a : Nat), .int .i64 (b : Nat), .int .i64 (p : Nat)] (uo g n c d :: K) (Ret (fun _ : Unit => True) (fun _ => .int .i64 ((partitionEqual ltInt d a b p).1 : Nat)) (fun _ => uo g n c (partitionEqual ltInt d a b p).2 :: K)) := by
 refine fe_ Tryz.func183 Tryz.ntmps183 [(0, .slice (some ⟨g, 0, none⟩) n c), (1, .int .i64 (a : Nat)), (2, .int .i64 (b : Nat)), (3, .int .i64 (p : Nat))] ?_
 generalize hT : partitionEqual ltInt d a b p = T
 unfold partitionEqual at hT
 refine go_ ?_; refine dr_ [] 16 ?_; refine y4_ 0 1 2 3 ?_; refine y4_ 4 5 6 8 ?_; refine y2_ 9 10 ?_; refine sd_batch (fun i => [7, 11].contains i) ?_; refine sx_yes 7 rfl gd_ (by kernel_rfl) (by kernel_rfl) nop_ (PuI.sep (by exact pv_)) rfl (fun _ h => h) ?_; refine sx_yes 11 rfl gd_ (by kernel_rfl) (by kernel_rfl) nop_ (PuI.sep (by exact pv_)) rfl (fun _ h => h) ?_; refine sx_rest (by kernel_rfl) ?_; refine sd_one 12 (by kernel_rfl) (sa_sl 12 rfl ?_)
 repeat refine su_ ?_
 refine sl_nil ?_; refine se_sd (fun _ _ _ => trivial) ?_; refine sd_one 13 (by kernel_rfl) (sa_sl 13 rfl ?_); refine sl_sto2 (i := a) rfl (at1k (by omega)) pick_ rfl rfl rfl (by omega) ?_; refine sl_nil ?_; refine se_sd (fun _ _ _ => trivial) ?_; refine sd_one 14 (by kernel_rfl) (sa_sl 14 rfl ?_)
 repeat refine su_ ?_
 refine sl_nil ?_; refine se_sd (fun _ _ _ => trivial) ?_; refine sd_one 15 (by kernel_rfl) (sa_sl 15 rfl ?_); refine sl_swp (i := a) (j := p) rfl (at1k (by omega)) pick_ rfl (get_k (by omega)) (get_k (by omega)) rfl (by omega) ?_; refine sl_nil ?_; refine se_sd (fun _ _ _ => trivial) ?_; refine sd_done (by kernel_rfl) ?_
 have hds := swp_sz hd a p
 generalize swp d a p = d1 at hds hT ⊢
 refine go_ ?_; rw [show ((a : Int) + 1) = ((a + 1 : Nat) : Int) by omega, show ((b : Int) - 1) = ((b - 1 : Nat) : Int) by omega]; refine sc_bjoin (α := Nat × Array Int) (fun q => [(9, .int .i64 q.1)]) (fun q => uo g n c q.2 :: K) (fun q => (q.1, q.2) = T) ?_ ?_
 ·refine sc_for (α := Nat × Nat × Array Int) (fun q => [(0, .slice (some ⟨g, 0, none⟩) n c), (1, .int .i64 a), (9, .int .i64 (q.1 : Nat)), (10, .int .i64 (q.2.1 : Nat))]) (fun q => uo g n c q.2.2 :: K) (fun q => q.2.2.size = n ∧ a + 1 ≤ q.1 ∧ q.2.1 < n ∧ partEqLoop ltInt a q.1 q.2.1 q.2.2 = T) (fun q => q.2.1 + 1 - q.1) (a + 1, b - 1, d1) has_ sub_ ⟨hds, by dsimp only; omega, by dsimp only; omega, hT⟩ ?_; rintro ⟨i2, j2, e⟩ ⟨hes, hi2, hj2, heT⟩
  dsimp only at hes hi2 hj2 heT ⊢
  rw [partEqLoop_eq] at heT
  refine go_ ?_; refine sc_bjoin (α := Nat) (fun i => [(0, .slice (some ⟨g, 0, none⟩) n c), (1, .int .i64 a), (9, .int .i64 (i : Nat)), (10, .int .i64 (j2 : Nat))]) (fun _ => uo g n c e :: K) (fun i => i = scanUp (fun x => !ltInt e[a]! x) e j2 i2) ?_ ?_
  ·refine sc_for (α := Nat) (fun i => [(0, .slice (some ⟨g, 0, none⟩) n c), (1, .int .i64 a), (9, .int .i64 (i : Nat)), (10, .int .i64 (j2 : Nat))]) (fun _ => uo g n c e :: K) (fun i => i2 ≤ i ∧ scanUp (fun x => !ltInt e[a]! x) e j2 i = scanUp (fun x => !ltInt e[a]! x) e j2 i2) (fun i => j2 + 1 - i) (i2) has_ sub_ ⟨Nat.le_refl _, rfl⟩ ?_; rintro i ⟨hi, hS⟩
   by_cases h1 : i ≤ j2
   case neg =>
    refine go_ ?_; refine o1_Qe ?_
    repeat refine rq_ ?_
    refine sq_end ?_; refine go_ ?_; exact se_mid i has_ sub_ (by rw [← hS, scanUp_out h1])
   cases hl : ltInt e[a]! e[i]! with
   | true =>
    refine go_ ?_; refine o1_Qe ?_
    repeat refine rq_ ?_
    refine o2_Qe ?_
    repeat refine rq_ ?_
    refine sq_end ?_; refine go_ ?_; exact se_mid i has_ sub_ (by rw [← hS, scanUp_stop (by simp [hl])])
   | false =>
    refine go_ ?_; refine o1_Qe ?_
    repeat refine rq_ ?_
    refine o2_Qe ?_
    repeat refine rq_ ?_
    refine sq_end ?_; refine go_ ?_; exact se_round (i + 1) has_ sub_ ⟨by omega, by rw [← hS]; exact (scanUp_go h1 (by simp [hl])).symm⟩ (by omega)
  rintro i3 hi3
  have hi3' := scanUp_ge (fun x => !ltInt e[a]! x) e j2 i2
  rw [← hi3] at heT hi3'
  clear hi3
  refine go_ ?_; refine sc_bjoin (α := Nat) (fun i => [(0, .slice (some ⟨g, 0, none⟩) n c), (1, .int .i64 a), (9, .int .i64 (i3 : Nat)), (10, .int .i64 (i : Nat))]) (fun _ => uo g n c e :: K) (fun i => i = scanDown (fun x => ltInt e[a]! x) e i3 j2) ?_ ?_
  ·refine sc_for (α := Nat) (fun i => [(0, .slice (some ⟨g, 0, none⟩) n c), (1, .int .i64 a), (9, .int .i64 (i3 : Nat)), (10, .int .i64 (i : Nat))]) (fun _ => uo g n c e :: K) (fun i => i ≤ j2 ∧ scanDown (fun x => ltInt e[a]! x) e i3 i = scanDown (fun x => ltInt e[a]! x) e i3 j2) (fun i => i) (j2) has_ sub_ ⟨Nat.le_refl _, rfl⟩ ?_; rintro i ⟨hi, hS⟩
   by_cases h1 : i3 ≤ i
   case neg =>
    refine go_ ?_; refine o1_Qe ?_
    repeat refine rq_ ?_
    refine sq_end ?_; refine go_ ?_; exact se_mid i has_ sub_ (by rw [← hS, scanDown_out h1])
   obtain ⟨i, rfl⟩ : ∃ k, i = k + 1 := ⟨i - 1, by omega⟩
   cases hl : ltInt e[a]! e[i + 1]! with
   | false =>
    refine go_ ?_; refine o1_Qe ?_
    repeat refine rq_ ?_
    refine o2_Qe ?_
    repeat refine rq_ ?_
    refine sq_end ?_; refine go_ ?_; exact se_mid (i + 1) has_ sub_ (by rw [← hS, scanDown_stop (by simp [hl])])
   | true =>
    refine go_ ?_; refine o1_Qe ?_
    repeat refine rq_ ?_
    refine o2_Qe ?_
    repeat refine rq_ ?_
    refine sq_end ?_; refine go_ ?_; rw [show (((i + 1 : Nat) : Int) - 1) = (i : Int) by omega]; exact se_round i has_ sub_ ⟨by omega, by rw [← hS]; exact (scanDown_go h1 (by simp [hl])).symm⟩ (by omega)
  rintro j3 hj3
  have hj3' := scanDown_le (fun x => ltInt e[a]! x) e i3 j2
  rw [← hj3] at heT hj3'
  clear hj3
  by_cases hij2 : i3 > j3
  ·rw [if_pos hij2] at heT
   refine go_ ?_; exact se_mid (i3, e) has_ sub_ heT
  rw [if_neg hij2] at heT
  refine go_ ?_; refine dr_ [] 16 ?_; refine y4_ 0 1 2 3 ?_; refine y4_ 4 5 6 8 ?_; refine y2_ 9 10 ?_; refine sd_batch (fun i => [7, 11].contains i) ?_; refine sx_yes 7 rfl gd_ (by kernel_rfl) (by kernel_rfl) nop_ (PuI.sep (by exact pv_)) rfl (fun _ h => h) ?_; refine sx_yes 11 rfl gd_ (by kernel_rfl) (by kernel_rfl) nop_ (PuI.sep (by exact pv_)) rfl (fun _ h => h) ?_; refine sx_rest (by kernel_rfl) ?_; refine sd_one 12 (by kernel_rfl) (sa_sl 12 rfl ?_)
  repeat refine su_ ?_
  refine sl_nil ?_; refine se_sd (fun _ _ _ => trivial) ?_; refine sd_one 13 (by kernel_rfl) (sa_sl 13 rfl ?_); refine sl_sto2 (i := i3) rfl (at1k (by omega)) pick_ rfl rfl rfl (by omega) ?_; refine sl_nil ?_; refine se_sd (fun _ _ _ => trivial) ?_; refine sd_one 14 (by kernel_rfl) (sa_sl 14 rfl ?_)
  repeat refine su_ ?_
  refine sl_nil ?_; refine se_sd (fun _ _ _ => trivial) ?_; refine sd_one 15 (by kernel_rfl) (sa_sl 15 rfl ?_); refine sl_swp (i := i3) (j := j3) rfl (at1k (by omega)) pick_ rfl (get_k (by omega)) (get_k (by omega)) rfl (by omega) ?_; refine sl_nil ?_; refine se_sd (fun _ _ _ => trivial) ?_; refine sd_done (by kernel_rfl) ?_; refine go_ ?_; rw [show ((i3 : Int) + 1) = ((i3 + 1 : Nat) : Int) by omega, show ((j3 : Int) - 1) = ((j3 - 1 : Nat) : Int) by omega]; exact se_round (i3 + 1, j3 - 1, swp e i3 j3) has_ sub_ ⟨swp_sz hes _ _, by dsimp only; omega, by dsimp only; omega, heT⟩ (by dsimp only; omega)
 rintro ⟨j4, e4⟩ heT4; subst heT4; dsimp only; refine go_ ?_; exact r1_ ()
theorem sorted_out {d : Array Int} {b i : Nat} (h : ¬ i < b) : scanSorted ltInt d b i = i := by rw [scanSorted, if_neg (by simp [h])]
theorem sorted_stop {d : Array Int} {b i : Nat} (h : ltInt d[i]! d[i - 1]! = true) : scanSorted ltInt d b i = i := by rw [scanSorted, if_neg (by simp [h])]
theorem sorted_go {d : Array Int} {b i : Nat} (h1 : i < b) (h : ltInt d[i]! d[i - 1]! = false) : scanSorted ltInt d b i = scanSorted ltInt d b (i + 1) := by rw [scanSorted, if_pos (by simp [h1, h])]
theorem partial_eq {d : Array Int} {a b : Nat} (h : b - a < 50) : partialInsertionSort ltInt d a b = (d, decide (scanSorted ltInt d b (a + 1) = b)) := by
 unfold partialInsertionSort
 rw [partialIns_succ]
 by_cases hs : scanSorted ltInt d b (a + 1) = b
 ·simp [hs]
 ·simp [hs, h]
theorem partial_ok {K : List Fa} {g n c : Nat} {d : Array Int} {a b : Nat} (hd : d.size = n) (hab : a < b) (hb : b ≤ n) (h50 : b - a < 50) (hn : n ≤ 1000000) :
  Fn Tryz.prog 181 #[.slice (some ⟨g, 0, none⟩) n c, .int .i64 (a : Nat), .int .i64 (b : Nat)] (uo g n c d :: K) (Ret (fun _ : Unit => True) (fun _ => .bool (decide (scanSorted ltInt d b (a + 1) = b))) (fun _ => uo g n c d :: K)) := by
 refine fe_ Tryz.func181 Tryz.ntmps181 [(0, .slice (some ⟨g, 0, none⟩) n c), (1, .int .i64 (a : Nat)), (2, .int .i64 (b : Nat))] ?_; refine go_ ?_; rw [show ((a : Int) + 1) = ((a + 1 : Nat) : Int) by omega]; refine sc_for (α := Unit) (fun _ => [(0, .slice (some ⟨g, 0, none⟩) n c), (1, .int .i64 a), (2, .int .i64 b), (7, .int .i64 ((a + 1 : Nat) : Int)), (8, .int .i64 0)]) (fun _ => uo g n c d :: K) (fun _ => True) (fun _ => 0) () has_ sub_ trivial ?_; rintro _ -; refine go_ ?_; refine sc_bjoin (α := Nat) (fun i => [(0, .slice (some ⟨g, 0, none⟩) n c), (1, .int .i64 a), (2, .int .i64 b), (7, .int .i64 (i : Nat)), (8, .int .i64 0)]) (fun _ => uo g n c d :: K) (fun i => i = scanSorted ltInt d b (a + 1)) ?_ ?_
 ·refine sc_for (α := Nat) (fun i => [(0, .slice (some ⟨g, 0, none⟩) n c), (1, .int .i64 a), (2, .int .i64 b), (7, .int .i64 (i : Nat)), (8, .int .i64 0)]) (fun _ => uo g n c d :: K) (fun i => a + 1 ≤ i ∧ i ≤ b ∧ scanSorted ltInt d b i = scanSorted ltInt d b (a + 1)) (fun i => b - i) (a + 1) has_ sub_ ⟨Nat.le_refl _, by omega, rfl⟩ ?_; rintro i ⟨hi, hib, hS⟩
  by_cases h1 : i < b
  case neg =>
   refine go_ ?_; refine sq_region (by kernel_rfl) (by kernel_rfl) ?_
   repeat refine rq_ ?_
   refine sq_end ?_; refine go_ ?_; exact se_mid i has_ sub_ (by rw [← hS, sorted_out h1])
  cases hl : ltInt d[i]! d[i - 1]! with
  | true =>
   refine go_ ?_; refine sq_region (by kernel_rfl) (by kernel_rfl) ?_
   repeat refine rq_ ?_
   refine WQ_call rfl rfl (by kernel_rfl) rfl (qless_ok (lt_k (by omega) (by omega) hl)) ?_
   repeat refine rq_ ?_
   refine sq_end ?_; refine go_ ?_; exact se_mid i has_ sub_ (by rw [← hS, sorted_stop hl])
  | false =>
   refine go_ ?_; refine sq_region (by kernel_rfl) (by kernel_rfl) ?_
   repeat refine rq_ ?_
   refine WQ_call rfl rfl (by kernel_rfl) rfl (qless_ok (lt_k (by omega) (by omega) hl)) ?_
   repeat refine rq_ ?_
   refine sq_end ?_; refine go_ ?_; exact se_round (i + 1) has_ sub_ ⟨by omega, by omega, by rw [← hS]; exact (sorted_go h1 hl).symm⟩ (by omega)
 rintro i hi; rw [← hi]
 clear hi
 by_cases hib : i = b
 ·subst hib; rw [decide_eq_true rfl]; refine go_ ?_; exact r1_ ()
 ·rw [decide_eq_false hib]; refine go_ ?_; exact r1_ ()
end
section
theorem sh13 (r : UInt64) : bits .xor .u64 (r.toNat : Int) (IntKind.u64.wrap ((r.toNat : Int) * 2 ^ (13 : Int).toNat)) = (((r ^^^ (r <<< 13)).toNat : Nat) : Int) := by
 have h : IntKind.u64.wrap ((r.toNat : Int) * 2 ^ (13 : Int).toNat) = (((r <<< 13).toNat : Nat) : Int) := by
  rw [UInt64.toNat_shiftLeft, show (UInt64.toNat 13 % 64) = 13 from rfl, Nat.shiftLeft_eq, show (13 : Int).toNat = 13 from rfl]
  simp [IntKind.wrap, IntKind.bits, IntKind.signed]
 rw [h, bits_xor_u64_nat _ _ r.toNat_lt (r <<< 13).toNat_lt, UInt64.toNat_xor]
theorem sh17 (r : UInt64) : bits .xor .u64 (r.toNat : Int) (IntKind.u64.wrap ((r.toNat : Int) * 2 ^ (17 : Int).toNat)) = (((r ^^^ (r <<< 17)).toNat : Nat) : Int) := by
 have h : IntKind.u64.wrap ((r.toNat : Int) * 2 ^ (17 : Int).toNat) = (((r <<< 17).toNat : Nat) : Int) := by
  rw [UInt64.toNat_shiftLeft, show (UInt64.toNat 17 % 64) = 17 from rfl, Nat.shiftLeft_eq, show (17 : Int).toNat = 17 from rfl]
  simp [IntKind.wrap, IntKind.bits, IntKind.signed]
 rw [h, bits_xor_u64_nat _ _ r.toNat_lt (r <<< 17).toNat_lt, UInt64.toNat_xor]
theorem sh7 (r : UInt64) : bits .xor .u64 (r.toNat : Int) ((r.toNat : Int) / 2 ^ (7 : Int).toNat) = (((r ^^^ (r >>> 7)).toNat : Nat) : Int) := by
 have h : (r.toNat : Int) / (2 : Int) ^ (7 : Int).toNat = (((r >>> 7).toNat : Nat) : Int) := by
  rw [UInt64.toNat_shiftRight, show (UInt64.toNat 7 % 64) = 7 from rfl, Nat.shiftRight_eq_div_pow, show (7 : Int).toNat = 7 from rfl]
  simp
 rw [h, bits_xor_u64_nat _ _ r.toNat_lt (r >>> 7).toNat_lt, UInt64.toNat_xor]
theorem u64_and (a b : Nat) (ha : a < 18446744073709551616) (hb : b < 18446744073709551616) : bits .and .u64 (a : Int) (b : Int) = ((a &&& b : Nat) : Int) := bits_and_u64_nat a b ha hb
theorem bl_50 : ∀ h, h < 50 → Lib.bitLen h = bitsLen h ∧ bitsLen h ≤ 6 ∧ 1 <<< bitsLen h ≤ 64 ∧ 1 ≤ 1 <<< bitsLen h ∧ (1 ≤ h → 1 <<< bitsLen h ≤ 2 * h) := by decide
def brkN (d : Array Int) (a h : Nat) : Nat → UInt64 × Array Int
 | 0 => (UInt64.ofNat h, d)
 | k + 1 => breakStep a h (1 <<< bitsLen h) (brkN d a h k) (a + (h / 4) * 2 - 1 + k)
theorem brkN_size {d : Array Int} {a h n : Nat} (hd : d.size = n) : ∀ k, (brkN d a h k).2.size = n
 | 0 => hd
 | k + 1 => by
  show (swp (brkN d a h k).2 _ _).size = n
  rw [size_swp]; exact brkN_size hd k
theorem brk_eq {d : Array Int} {a h : Nat} (h8 : 8 ≤ h) : breakPatterns d a (a + h) = (brkN d a h 3).2 := by
 unfold breakPatterns
 rw [show a + h - a = h by omega]; dsimp only; rw [if_pos h8]
 rfl
def oth (r : UInt64) (h : Nat) : Nat := if (xorNext r).toNat &&& (1 <<< bitsLen h - 1) ≥ h then ((xorNext r).toNat &&& (1 <<< bitsLen h - 1)) - h else (xorNext r).toNat &&& (1 <<< bitsLen h - 1)
theorem brkN_succ {d : Array Int} {a h k : Nat} : brkN d a h (k + 1) = (xorNext (brkN d a h k).1, swp (brkN d a h k).2 (a + (h / 4) * 2 - 1 + k) (a + oth (brkN d a h k).1 h)) := rfl
theorem brkN_zero {d : Array Int} {a h : Nat} : brkN d a h 0 = (UInt64.ofNat h, d) := rfl
theorem xorNext_eq (r : UInt64) : xorNext r = (((r ^^^ (r <<< 13)) ^^^ ((r ^^^ (r <<< 13)) >>> 7)) ^^^ (((r ^^^ (r <<< 13)) ^^^ ((r ^^^ (r <<< 13)) >>> 7)) <<< 17)) := rfl
attribute [local irreducible] brkN xorNext breakPatterns
open pQa
theorem next_ok {K : List Fa} {q : Nat} {r : UInt64} :
  Fn Tryz.prog 204 #[.pointer (some ⟨q, 0, none⟩)] (blk q 261 [.int .u64 (r.toNat : Nat)] :: K) (Ret (fun _ : Unit => True) (fun _ => .int .u64 ((xorNext r).toNat : Nat)) (fun _ => blk q 261 [.int .u64 ((xorNext r).toNat : Nat)] :: K)) := by
 refine fe_ Tryz.func204 Tryz.ntmps204 [(0, .pointer (some ⟨q, 0, none⟩))] ?_; rw [xorNext_eq]; refine go_ ?_; refine sd_drawn (fun W => AllP W [blk q 261 [.int .u64 ((r).toNat : Nat)]]) (fun i => !(List.contains [9] i)) (by kernel_rfl) 10 rfl ?_; refine y4_ 0 1 2 3 ?_; refine y4_ 4 5 6 7 ?_; refine wy_ 8 ?_; refine w1_ 9 ?_; refine sto_ ?_; refine sl_nil ?_; refine se_sd (fun h => absurd h (by decide)) ?_; refine wx_ ?_; rw [sh13]
 generalize r ^^^ (r <<< 13) = r1
 refine go_ ?_; refine sd_drawn (fun W => AllP W [blk q 261 [.int .u64 ((r1).toNat : Nat)]]) (fun i => !(List.contains [9] i)) (by kernel_rfl) 10 rfl ?_; refine y4_ 0 1 2 3 ?_; refine y4_ 4 5 6 7 ?_; refine wy_ 8 ?_; refine w1_ 9 ?_; refine sto_ ?_; refine sl_nil ?_; refine se_sd (fun h => absurd h (by decide)) ?_; refine wx_ ?_; rw [sh7]
 generalize r1 ^^^ (r1 >>> 7) = r2
 refine go_ ?_; refine sd_drawn (fun W => AllP W [blk q 261 [.int .u64 ((r2).toNat : Nat)]]) (fun i => !(List.contains [9] i)) (by kernel_rfl) 10 rfl ?_; refine y4_ 0 1 2 3 ?_; refine y4_ 4 5 6 7 ?_; refine wy_ 8 ?_; refine w1_ 9 ?_; refine sto_ ?_; refine sl_nil ?_; refine se_sd (fun h => absurd h (by decide)) ?_; refine wx_ ?_; rw [sh17]
 generalize r2 ^^^ (r2 <<< 17) = r3
 refine go_ ?_; exact r1_ ()
theorem npow_ok {K : List Fa} {h : Nat} (h50 : h < 50) :
  Fn Tryz.prog 203 #[.int .i64 (h : Nat)] K (Ret (fun _ : Unit => True) (fun _ => .int .u64 ((1 <<< bitsLen h : Nat) : Int)) (fun _ => K)) := by
 refine fe_ Tryz.func203 Tryz.ntmps203 [(0, .int .i64 (h : Nat))] ?_
 obtain ⟨e1, e2, e3, e4, e5⟩ := bl_50 h h50
 refine go_ ?_; refine slc_ rfl rfl Sub.refl (fn_eq (len_c _ (by omega) (by omega))) ?_; rintro _ -; rw [Int.toNat_natCast, e1]; refine go_ ?_
 rw [show IntKind.u64.wrap (1 * 2 ^ ((bitsLen h : Nat) : Int).toNat) = ((1 <<< bitsLen h : Nat) : Int) by
   rw [Int.toNat_natCast, Int.one_mul, Nat.shiftLeft_eq, Nat.one_mul] at *
   simp [IntKind.wrap, IntKind.bits, IntKind.signed]
   have : (2 : Int) ^ bitsLen h = ((2 ^ bitsLen h : Nat) : Int) := by simp
   omega]
 exact r1_ ()
theorem brk_ok {K : List Fa} {g n c : Nat} {d : Array Int} {a h : Nat} (hd : d.size = n) (hb : a + h ≤ n) (h8 : 8 ≤ h) (h50 : h < 50) (hn : n ≤ 1000000) :
  Fn Tryz.prog 178 #[.slice (some ⟨g, 0, none⟩) n c, .int .i64 (a : Nat), .int .i64 ((a + h : Nat) : Int)] (uo g n c d :: K) (Ret (fun _ : Unit => True) (fun _ => .tuple #[]) (fun _ => uo g n c (breakPatterns d a (a + h)) :: K)) := by
 refine fe_ Tryz.func178 Tryz.ntmps178 [(0, .slice (some ⟨g, 0, none⟩) n c), (1, .int .i64 (a : Nat)), (2, .int .i64 ((a + h : Nat) : Int))] ?_
 obtain ⟨e1, e2, e3, e4, e5⟩ := bl_50 h h50
 rw [brk_eq h8]; refine go_ ?_; rw [show (((a + h : Nat) : Int) - a) = h by omega]; refine go_ ?_; refine al_ ?_; intro q; refine go_ ?_; refine slc_ rfl rfl sub_ (npow_ok h50) ?_; rintro _ -; refine go_ ?_
 have h0 : (((brkN d a h 0).1.toNat : Nat) : Int) = h := by
  rw [brkN_zero]
  show (((UInt64.ofNat h).toNat : Nat) : Int) = h
  rw [UInt64.toNat_ofNat', Nat.mod_eq_of_lt (by omega)]
 rw [show ((a : Int) + (h : Int) / 4 * 2 - 1) = ((a + (h / 4) * 2 - 1 + 0 : Nat) : Int) by omega]
 generalize hm : 1 <<< bitsLen h = m at e3 e4 e5 ⊢
 have e5' := e5 (by omega)
 refine sc_for (α := Nat) (fun k => [(0, .slice (some ⟨g, 0, none⟩) n c), (1, .int .i64 a), (6, .int .i64 h), (7, .pointer (some ⟨q, 0, none⟩)), (8, .int .u64 (m : Nat)), (9, .int .i64 ((a + (h / 4) * 2 - 1 + k : Nat) : Int))]) (fun k => blk q 261 [.int .u64 ((brkN d a h k).1.toNat : Nat)] :: uo g n c (brkN d a h k).2 :: K) (fun k => k ≤ 3) (fun k => 3 - k) 0 has_ (by rw [h0, brkN_zero]; exact sub_) (by decide) ?_; intro k hk
 have hsz := brkN_size (a := a) (h := h) hd k
 by_cases hk3 : k < 3
 case neg =>
  obtain rfl : k = 3 := by omega
  refine go_ ?_; exact se_end0 () trivial rfl rfl sub_
 have hs := brkN_succ (d := d) (a := a) (h := h) (k := k)
 have ho : oth (brkN d a h k).1 h = if (xorNext (brkN d a h k).1).toNat &&& (m - 1) ≥ h then ((xorNext (brkN d a h k).1).toNat &&& (m - 1)) - h else (xorNext (brkN d a h k).1).toNat &&& (m - 1) := by unfold oth; rw [hm]
 generalize hr : (brkN d a h k).1 = r at hs ho ⊢
 generalize he : (brkN d a h k).2 = e at hs hsz ⊢
 refine go_ ?_; refine slc_ rfl rfl sub_ next_ok ?_; rintro _ -; refine su_ ?_; refine su_ ?_; refine su_ ?_; rw [show ((m : Int) - 1) = ((m - 1 : Nat) : Int) by omega, u64_and _ _ (xorNext r).toNat_lt (by omega)]
 have hle : (xorNext r).toNat &&& (m - 1) ≤ m - 1 := Nat.and_le_right
 generalize (xorNext r).toNat &&& (m - 1) = o at ho hle ⊢
 by_cases hoh : o ≥ h
 ·rw [if_pos hoh] at ho
  rw [ho] at hs
  refine go_ ?_; refine dr_ [] 20 ?_; refine y4_ 0 1 2 3 ?_; refine y4_ 4 5 6 7 ?_; refine y4_ 8 9 10 12 ?_; refine y2_ 13 14 ?_; refine sd_batch (fun i => [11, 15].contains i) ?_; refine sx_yes 11 rfl gd_ (by kernel_rfl) (by kernel_rfl) nop_ (PuI.sep (by exact pv_)) rfl (fun _ h => h) ?_; refine sx_yes 15 rfl gd_ (by kernel_rfl) (by kernel_rfl) nop_ (PuI.sep (by exact pv_)) rfl (fun _ h => h) ?_; refine sx_rest (by kernel_rfl) ?_; refine sd_one 16 (by kernel_rfl) (sa_sl 16 rfl ?_)
  repeat refine su_ ?_
  refine sl_nil ?_; refine se_sd (fun _ _ _ => trivial) ?_; refine sd_one 17 (by kernel_rfl) (sa_sl 17 rfl ?_); refine sl_sto2 (i := a + (h / 4) * 2 - 1 + k) rfl (at1k (by omega)) pick_ rfl rfl rfl (by omega) ?_; refine sl_nil ?_; refine se_sd (fun _ _ _ => trivial) ?_; refine sd_one 18 (by kernel_rfl) (sa_sl 18 rfl ?_)
  repeat refine su_ ?_
  refine sl_nil ?_; refine se_sd (fun _ _ _ => trivial) ?_; refine sd_one 19 (by kernel_rfl) (sa_sl 19 rfl ?_); refine sl_swp (i := a + (h / 4) * 2 - 1 + k) (j := a + (o - h)) rfl (at1k (by omega)) pick_ rfl (get_k (by omega)) (get_k (by omega)) rfl (by omega) ?_; refine sl_nil ?_; refine se_sd (fun _ _ _ => trivial) ?_; refine sd_done (by kernel_rfl) ?_; refine go_ ?_; rw [show (((a + (h / 4) * 2 - 1 + k : Nat) : Int) + 1) = ((a + (h / 4) * 2 - 1 + (k + 1) : Nat) : Int) by omega]; exact se_round (k + 1) has_ (by rw [hs]; exact sub_) hk3 (by omega)
 ·rw [if_neg hoh] at ho
  rw [ho] at hs
  refine go_ ?_; refine dr_ [] 20 ?_; refine y4_ 0 1 2 3 ?_; refine y4_ 4 5 6 7 ?_; refine y4_ 8 9 10 12 ?_; refine y2_ 13 14 ?_; refine sd_batch (fun i => [11, 15].contains i) ?_; refine sx_yes 11 rfl gd_ (by kernel_rfl) (by kernel_rfl) nop_ (PuI.sep (by exact pv_)) rfl (fun _ h => h) ?_; refine sx_yes 15 rfl gd_ (by kernel_rfl) (by kernel_rfl) nop_ (PuI.sep (by exact pv_)) rfl (fun _ h => h) ?_; refine sx_rest (by kernel_rfl) ?_; refine sd_one 16 (by kernel_rfl) (sa_sl 16 rfl ?_)
  repeat refine su_ ?_
  refine sl_nil ?_; refine se_sd (fun _ _ _ => trivial) ?_; refine sd_one 17 (by kernel_rfl) (sa_sl 17 rfl ?_); refine sl_sto2 (i := a + (h / 4) * 2 - 1 + k) rfl (at1k (by omega)) pick_ rfl rfl rfl (by omega) ?_; refine sl_nil ?_; refine se_sd (fun _ _ _ => trivial) ?_; refine sd_one 18 (by kernel_rfl) (sa_sl 18 rfl ?_)
  repeat refine su_ ?_
  refine sl_nil ?_; refine se_sd (fun _ _ _ => trivial) ?_; refine sd_one 19 (by kernel_rfl) (sa_sl 19 rfl ?_); refine sl_swp (i := a + (h / 4) * 2 - 1 + k) (j := a + o) rfl (at1k (by omega)) pick_ rfl (get_k (by omega)) (get_k (by omega)) rfl (by omega) ?_; refine sl_nil ?_; refine se_sd (fun _ _ _ => trivial) ?_; refine sd_done (by kernel_rfl) ?_; refine go_ ?_; rw [show (((a + (h / 4) * 2 - 1 + k : Nat) : Int) + 1) = ((a + (h / 4) * 2 - 1 + (k + 1) : Nat) : Int) by omega]; exact se_round (k + 1) has_ (by rw [hs]; exact sub_) hk3 (by omega)
end
section
theorem sift_end {hi F r : Nat} {e : Array Int} (h : hi ≤ 2 * r + 1) : siftDown ltInt hi F r e = e := by
 rw [siftDown, dif_pos h]
theorem sift_size (hi F : Nat) : ∀ (k r : Nat) (e : Array Int), hi - r ≤ k → (siftDown ltInt hi F r e).size = e.size
 | 0, r, e, h => by rw [sift_end (by omega)]
 | k + 1, r, e, h => by
  by_cases h0 : hi ≤ 2 * r + 1
  ·rw [sift_end h0]
  rw [siftDown, dif_neg h0]
  split
  ·split
   ·rfl
   ·split
    ·rw [sift_size hi F k _ _ (by omega), size_swp]
    ·rfl
  ·split
   ·rfl
   ·rw [sift_size hi F k _ _ (by omega), size_swp]
theorem sift_l {hi F r : Nat} {e : Array Int} (h : ¬ hi ≤ 2 * r + 1) (h1 : ¬ (2 * r + 2 < hi ∧ ltInt e[F + (2 * r + 1)]! e[F + (2 * r + 2)]! = true)) : siftDown ltInt hi F r e = if ltInt e[F + r]! e[F + (2 * r + 1)]! = true then siftDown ltInt hi F (2 * r + 1) (swp e (F + r) (F + (2 * r + 1))) else e := by
 rw [siftDown, dif_neg h, if_neg (by simpa [Nat.add_assoc] using h1)]
 cases hl : ltInt e[F + r]! e[F + (2 * r + 1)]! <;> simp
theorem sift_r {hi F r : Nat} {e : Array Int} (h : 2 * r + 2 < hi) (h1 : ltInt e[F + (2 * r + 1)]! e[F + (2 * r + 2)]! = true) : siftDown ltInt hi F r e = if ltInt e[F + r]! e[F + (2 * r + 2)]! = true then siftDown ltInt hi F (2 * r + 2) (swp e (F + r) (F + (2 * r + 2))) else e := by
 rw [siftDown, dif_neg (by omega), if_pos (by simpa [Nat.add_assoc] using ⟨h, h1⟩)]
 cases hl : ltInt e[F + r]! e[F + (2 * r + 2)]! <;> simp [h]
open pQa
theorem o1_Qb (k : ψ) (h : Hide ψ → φ := by (intro k; refine sq_region (by kernel_rfl) (by kernel_rfl) ?_; exact k.out)) : φ := h ⟨k⟩
theorem o2_Qb (k : ψ) (h : Hide ψ → φ := by (intro k; refine WQ_call rfl rfl (by kernel_rfl) rfl (qless_ok (lt_k (by omega) (by omega) hl2)) ?_; exact k.out)) : φ := h ⟨k⟩
theorem o3_Qb (k : ψ) (h : Hide ψ → φ := by (intro k; refine se_sd (fun _ _ _ => trivial) ?_; exact k.out)) : φ := h ⟨k⟩
theorem sift_ok {K : List Fa} {g n c : Nat} {d : Array Int} {lo hi F : Nat} (hd : d.size = n) (hF : F + hi ≤ n) (hn : n ≤ 1000000) (hlo : lo ≤ n) :
  Fn Tryz.prog 207 #[.slice (some ⟨g, 0, none⟩) n c, .int .i64 (lo : Nat), .int .i64 (hi : Nat), .int .i64 (F : Nat)] (uo g n c d :: K) (Ret (fun _ : Unit => True) (fun _ => .tuple #[]) (fun _ => uo g n c (siftDown ltInt hi F lo d) :: K)) := by
 refine fe_ Tryz.func207 Tryz.ntmps207 [(0, .slice (some ⟨g, 0, none⟩) n c), (1, .int .i64 (lo : Nat)), (2, .int .i64 (hi : Nat)), (3, .int .i64 (F : Nat))] ?_
 generalize hT : siftDown ltInt hi F lo d = T
 refine go_ ?_; refine sc_for (α := Nat × Array Int) (fun p => [(0, .slice (some ⟨g, 0, none⟩) n c), (2, .int .i64 hi), (3, .int .i64 F), (8, .int .i64 p.1)]) (fun p => uo g n c p.2 :: K) (fun p => p.2.size = n ∧ p.1 ≤ n ∧ siftDown ltInt hi F p.1 p.2 = T) (fun p => hi - p.1) (lo, d) has_ sub_ ⟨hd, hlo, hT⟩ ?_; rintro ⟨r, e⟩ ⟨hes, hrn, heT⟩
 dsimp only at hes hrn heT ⊢
 by_cases h0 : hi ≤ 2 * r + 1
 ·rw [sift_end h0] at heT
  subst heT; refine go_ ?_; exact se_end0 () trivial rfl rfl sub_
 by_cases hc : 2 * r + 2 < hi
 ·cases hl : ltInt e[F + (2 * r + 1)]! e[F + (2 * r + 2)]! with
  | true =>
   rw [sift_r hc hl] at heT
   refine go_ ?_; refine o1_Qb ?_
   repeat refine rq_ ?_
   refine WQ_call rfl rfl (by kernel_rfl) rfl (qless_ok (lt_k (by omega) (by omega) hl)) ?_
   repeat refine rq_ ?_
   refine sq_end ?_; refine go_ ?_
   cases hl2 : ltInt e[F + r]! e[F + (2 * r + 2)]! with
   | false =>
    rw [hl2, if_neg (by decide)] at heT
    subst heT; refine o1_Qb ?_
    repeat refine rq_ ?_
    refine o2_Qb ?_
    repeat refine rq_ ?_
    refine sq_end ?_; refine go_ ?_; exact se_ret0 () trivial rfl rfl sub_
   | true =>
    rw [hl2, if_pos rfl] at heT
    refine o1_Qb ?_
    repeat refine rq_ ?_
    refine o2_Qb ?_
    repeat refine rq_ ?_
    refine sq_end ?_; refine go_ ?_; refine dr_ [] 24 ?_; refine y4_ 0 1 2 3 ?_; refine y4_ 4 5 6 7 ?_; refine y4_ 8 9 10 11 ?_; refine y4_ 12 14 15 16 ?_; refine y2_ 17 18 ?_; refine sd_batch (fun i => [13, 19].contains i) ?_; refine sx_yes 13 rfl gd_ (by kernel_rfl) (by kernel_rfl) nop_ (PuI.sep (by exact pv_)) rfl (fun _ h => h) ?_; refine sx_yes 19 rfl gd_ (by kernel_rfl) (by kernel_rfl) nop_ (PuI.sep (by exact pv_)) rfl (fun _ h => h) ?_; refine sx_rest (by kernel_rfl) ?_; refine sd_one 20 (by kernel_rfl) (sa_sl 20 rfl ?_)
    repeat refine su_ ?_
    refine sl_nil ?_; refine o3_Qb ?_; refine sd_one 21 (by kernel_rfl) (sa_sl 21 rfl ?_); refine sl_sto2 (i := F + r) rfl (at1k (by omega)) pick_ rfl rfl rfl (by omega) ?_; refine sl_nil ?_; refine o3_Qb ?_; refine sd_one 22 (by kernel_rfl) (sa_sl 22 rfl ?_)
    repeat refine su_ ?_
    refine sl_nil ?_; refine o3_Qb ?_; refine sd_one 23 (by kernel_rfl) (sa_sl 23 rfl ?_); refine sl_swp (i := F + r) (j := F + (2 * r + 2)) rfl (at1k (by omega)) pick_ rfl (get_k (by omega)) (get_k (by omega)) rfl (by omega) ?_; refine sl_nil ?_; refine o3_Qb ?_; refine sd_done (by kernel_rfl) ?_; refine go_ ?_; rw [show (2 * (r : Int) + 1 + 1 : Int) = (((2 * r + 2) : Nat) : Int) by omega]; exact se_round ((2 * r + 2), swp e (F + r) (F + (2 * r + 2))) has_ sub_ ⟨swp_sz hes _ _, by dsimp only; omega, heT⟩ (by dsimp only; omega)
  | false =>
   rw [sift_l h0 (by simp [hl])] at heT
   refine go_ ?_; refine o1_Qb ?_
   repeat refine rq_ ?_
   refine WQ_call rfl rfl (by kernel_rfl) rfl (qless_ok (lt_k (by omega) (by omega) hl)) ?_
   repeat refine rq_ ?_
   refine sq_end ?_; refine go_ ?_
   cases hl2 : ltInt e[F + r]! e[F + (2 * r + 1)]! with
   | false =>
    rw [hl2, if_neg (by decide)] at heT
    subst heT; refine o1_Qb ?_
    repeat refine rq_ ?_
    refine o2_Qb ?_
    repeat refine rq_ ?_
    refine sq_end ?_; refine go_ ?_; exact se_ret0 () trivial rfl rfl sub_
   | true =>
    rw [hl2, if_pos rfl] at heT
    refine o1_Qb ?_
    repeat refine rq_ ?_
    refine o2_Qb ?_
    repeat refine rq_ ?_
    refine sq_end ?_; refine go_ ?_; refine dr_ [] 24 ?_; refine y4_ 0 1 2 3 ?_; refine y4_ 4 5 6 7 ?_; refine y4_ 8 9 10 11 ?_; refine y4_ 12 14 15 16 ?_; refine y2_ 17 18 ?_; refine sd_batch (fun i => [13, 19].contains i) ?_; refine sx_yes 13 rfl gd_ (by kernel_rfl) (by kernel_rfl) nop_ (PuI.sep (by exact pv_)) rfl (fun _ h => h) ?_; refine sx_yes 19 rfl gd_ (by kernel_rfl) (by kernel_rfl) nop_ (PuI.sep (by exact pv_)) rfl (fun _ h => h) ?_; refine sx_rest (by kernel_rfl) ?_; refine sd_one 20 (by kernel_rfl) (sa_sl 20 rfl ?_)
    repeat refine su_ ?_
    refine sl_nil ?_; refine o3_Qb ?_; refine sd_one 21 (by kernel_rfl) (sa_sl 21 rfl ?_); refine sl_sto2 (i := F + r) rfl (at1k (by omega)) pick_ rfl rfl rfl (by omega) ?_; refine sl_nil ?_; refine o3_Qb ?_; refine sd_one 22 (by kernel_rfl) (sa_sl 22 rfl ?_)
    repeat refine su_ ?_
    refine sl_nil ?_; refine o3_Qb ?_; refine sd_one 23 (by kernel_rfl) (sa_sl 23 rfl ?_); refine sl_swp (i := F + r) (j := F + (2 * r + 1)) rfl (at1k (by omega)) pick_ rfl (get_k (by omega)) (get_k (by omega)) rfl (by omega) ?_; refine sl_nil ?_; refine o3_Qb ?_; refine sd_done (by kernel_rfl) ?_; refine go_ ?_; rw [show (2 * (r : Int) + 1 : Int) = (((2 * r + 1) : Nat) : Int) by omega]; exact se_round ((2 * r + 1), swp e (F + r) (F + (2 * r + 1))) has_ sub_ ⟨swp_sz hes _ _, by dsimp only; omega, heT⟩ (by dsimp only; omega)
 ·rw [sift_l h0 (by simp [hc])] at heT
  refine go_ ?_; refine o1_Qb ?_
  repeat refine rq_ ?_
  refine sq_end ?_; refine go_ ?_
  cases hl2 : ltInt e[F + r]! e[F + (2 * r + 1)]! with
  | false =>
   rw [hl2, if_neg (by decide)] at heT
   subst heT; refine o1_Qb ?_
   repeat refine rq_ ?_
   refine o2_Qb ?_
   repeat refine rq_ ?_
   refine sq_end ?_; refine go_ ?_; exact se_ret0 () trivial rfl rfl sub_
  | true =>
   rw [hl2, if_pos rfl] at heT
   refine o1_Qb ?_
   repeat refine rq_ ?_
   refine o2_Qb ?_
   repeat refine rq_ ?_
   refine sq_end ?_; refine go_ ?_; refine dr_ [] 24 ?_; refine y4_ 0 1 2 3 ?_; refine y4_ 4 5 6 7 ?_; refine y4_ 8 9 10 11 ?_; refine y4_ 12 14 15 16 ?_; refine y2_ 17 18 ?_; refine sd_batch (fun i => [13, 19].contains i) ?_; refine sx_yes 13 rfl gd_ (by kernel_rfl) (by kernel_rfl) nop_ (PuI.sep (by exact pv_)) rfl (fun _ h => h) ?_; refine sx_yes 19 rfl gd_ (by kernel_rfl) (by kernel_rfl) nop_ (PuI.sep (by exact pv_)) rfl (fun _ h => h) ?_; refine sx_rest (by kernel_rfl) ?_; refine sd_one 20 (by kernel_rfl) (sa_sl 20 rfl ?_)
   repeat refine su_ ?_
   refine sl_nil ?_; refine o3_Qb ?_; refine sd_one 21 (by kernel_rfl) (sa_sl 21 rfl ?_); refine sl_sto2 (i := F + r) rfl (at1k (by omega)) pick_ rfl rfl rfl (by omega) ?_; refine sl_nil ?_; refine o3_Qb ?_; refine sd_one 22 (by kernel_rfl) (sa_sl 22 rfl ?_)
   repeat refine su_ ?_
   refine sl_nil ?_; refine o3_Qb ?_; refine sd_one 23 (by kernel_rfl) (sa_sl 23 rfl ?_); refine sl_swp (i := F + r) (j := F + (2 * r + 1)) rfl (at1k (by omega)) pick_ rfl (get_k (by omega)) (get_k (by omega)) rfl (by omega) ?_; refine sl_nil ?_; refine o3_Qb ?_; refine sd_done (by kernel_rfl) ?_; refine go_ ?_; rw [show (2 * (r : Int) + 1 : Int) = (((2 * r + 1) : Nat) : Int) by omega]; exact se_round ((2 * r + 1), swp e (F + r) (F + (2 * r + 1))) has_ sub_ ⟨swp_sz hes _ _, by dsimp only; omega, heT⟩ (by dsimp only; omega)
theorem heap_ok {K : List Fa} {g n c : Nat} {d : Array Int} {a h : Nat} (hd : d.size = n) (hb : a + h ≤ n) (h1 : 1 ≤ h) (hn : n ≤ 1000000) :
  Fn Tryz.prog 177 #[.slice (some ⟨g, 0, none⟩) n c, .int .i64 (a : Nat), .int .i64 ((a + h : Nat) : Int)] (uo g n c d :: K) (Ret (fun _ : Unit => True) (fun _ => .tuple #[]) (fun _ => uo g n c (heapSort ltInt d a (a + h)) :: K)) := by
 refine fe_ Tryz.func177 Tryz.ntmps177 [(0, .slice (some ⟨g, 0, none⟩) n c), (1, .int .i64 (a : Nat)), (2, .int .i64 ((a + h : Nat) : Int))] ?_
 generalize hT : heapSort ltInt d a (a + h) = T
 unfold heapSort at hT
 rw [show a + h - a = h by omega] at hT
 refine go_ ?_; rw [show (((a + h : Nat) : Int) - a) = h by omega, show (((h : Nat) : Int) - 1) / 2 = (((h - 1) / 2 + 1 : Nat) : Int) - 1 by omega]; refine sc_for (α := Nat × Array Int) (fun p => [(0, .slice (some ⟨g, 0, none⟩) n c), (6, .int .i64 a), (7, .int .i64 0), (8, .int .i64 h), (9, .int .i64 ((p.1 : Int) - 1))]) (fun p => uo g n c p.2 :: K) (fun p => p.2.size = n ∧ p.1 ≤ n ∧ heapPop ltInt a h (heapBuild ltInt h a p.1 p.2) = T) (fun p => p.1) ((h - 1) / 2 + 1, d) has_ sub_ ⟨hd, by dsimp only; omega, hT⟩ ?_; rintro ⟨k, e⟩ ⟨hes, hk, heT⟩
 dsimp only at hes hk heT ⊢
 rcases k with _ | k
 ·simp only [heapBuild] at heT
  refine go_ ?_; refine sc_for (α := Nat × Array Int) (fun p => [(0, .slice (some ⟨g, 0, none⟩) n c), (6, .int .i64 a), (7, .int .i64 0), (10, .int .i64 ((p.1 : Int) - 1))]) (fun p => uo g n c p.2 :: K) (fun p => p.2.size = n ∧ p.1 ≤ h ∧ heapPop ltInt a p.1 p.2 = T) (fun p => p.1) (h, e) has_ sub_ ⟨hes, by dsimp only; omega, heT⟩ ?_; rintro ⟨k, e'⟩ ⟨hes', hk', heT'⟩
  dsimp only at hes' hk' heT' ⊢
  rcases k with _ | k
  ·simp only [heapPop] at heT'
   subst heT'
   refine go_ ?_; exact se_end0 () trivial rfl rfl sub_
  rw [heapPop] at heT'
  rw [show (((k + 1 : Nat) : Int) - 1) = (k : Int) by omega]; refine go_ ?_; refine dr_ [] 20 ?_; refine y4_ 0 1 2 3 ?_; refine y4_ 4 5 6 7 ?_; refine y4_ 8 9 10 12 ?_; refine y2_ 13 14 ?_; refine sd_batch (fun i => [11, 15].contains i) ?_; refine sx_yes 11 rfl gd_ (by kernel_rfl) (by kernel_rfl) nop_ (PuI.sep (by exact pv_)) rfl (fun _ h => h) ?_; refine sx_yes 15 rfl gd_ (by kernel_rfl) (by kernel_rfl) nop_ (PuI.sep (by exact pv_)) rfl (fun _ h => h) ?_; refine sx_rest (by kernel_rfl) ?_; refine sd_one 16 (by kernel_rfl) (sa_sl 16 rfl ?_)
  repeat refine su_ ?_
  refine sl_nil ?_; refine se_sd (fun _ _ _ => trivial) ?_; refine sd_one 17 (by kernel_rfl) (sa_sl 17 rfl ?_); refine sl_sto2 (i := a) rfl (at1k (by omega)) pick_ rfl rfl rfl (by omega) ?_; refine sl_nil ?_; refine se_sd (fun _ _ _ => trivial) ?_; refine sd_one 18 (by kernel_rfl) (sa_sl 18 rfl ?_)
  repeat refine su_ ?_
  refine sl_nil ?_; refine se_sd (fun _ _ _ => trivial) ?_; refine sd_one 19 (by kernel_rfl) (sa_sl 19 rfl ?_); refine sl_swp (i := a) (j := a + k) rfl (at1k (by omega)) pick_ rfl (get_k (by omega)) (get_k (by omega)) rfl (by omega) ?_; refine sl_nil ?_; refine se_sd (fun _ _ _ => trivial) ?_; refine sd_done (by kernel_rfl) ?_; refine go_ ?_; refine slc_ rfl rfl sub_ (sift_ok (lo := 0) (swp_sz hes' _ _) (by omega) hn (by omega)) ?_; rintro _ -; refine go_ ?_; exact se_round (k, siftDown ltInt k a 0 (swp e' a (a + k))) has_ sub_ ⟨by dsimp only; rw [sift_size _ _ _ _ _ (Nat.le_refl _)]; exact swp_sz hes' _ _, by dsimp only; omega, heT'⟩ (by dsimp only; omega)
 rw [heapBuild] at heT
 rw [show (((k + 1 : Nat) : Int) - 1) = (k : Int) by omega]; refine go_ ?_; refine slc_ rfl rfl sub_ (sift_ok (lo := k) hes (by omega) hn (by omega)) ?_; rintro _ -; refine go_ ?_; exact se_round (k, siftDown ltInt h a k e) has_ sub_ ⟨by dsimp only; rw [sift_size _ _ _ _ _ (Nat.le_refl _)]; exact hes, by dsimp only; omega, heT⟩ (by dsimp only; omega)
end
end
end Go.Proofs.YtocaabnbmcpjmaaGreat
