/- Several texts of one claim, one behind the other. -/
import Derived.Test.YtocaabnbmcpjmaaGreatB16
import Derived.Test.YtocaabnbmcpjmaaGreatB17
import Derived.Test.YtocaabnbmcpjmaaGreatB15
import Derived.Test.YtocaabnbmcpjmaaGreatB08
set_option linter.unusedVariables false
set_option linter.unusedSimpArgs false
set_option maxRecDepth 100000
set_option maxHeartbeats 16000000
namespace Go.Proofs.YtocaabnbmcpjmaaGreat
variable {φ ψ : Prop}
section
open Go.RowKit Go.Sort
attribute [local irreducible] Go.Calls Go.Exit.then Go.Exit.inBlock Go.bodyPost Go.Code.wp Go.wpList
section
open pQa
theorem order2_le {d : Array Int} {a b s : Nat} : (order2 ltInt d a b s).2.2 ≤ s + 1 := by
 unfold order2
 split <;> simp
theorem order2_mem {d : Array Int} {a b s n : Nat} (ha : a < n) (hb : b < n) : (order2 ltInt d a b s).1 < n ∧ (order2 ltInt d a b s).2.1 < n := by
 unfold order2
 split <;> simp [ha, hb]
theorem order2_ok {K : List Fa} {g n c q s : Nat} {d : Array Int} {a b : Nat} (hd : d.size = n) (ha : a < n) (hb : b < n) (hs : s ≤ 100) :
  Fn Tryz.prog 221 #[.slice (some ⟨g, 0, none⟩) n c, .int .i64 (a : Nat), .int .i64 (b : Nat), .pointer (some ⟨q, 0, none⟩)] (uo g n c d :: blk q 3 [.int .i64 (s : Nat)] :: K) (Ret (fun _ : Unit => True) (fun _ => .tuple #[.int .i64 ((order2 ltInt d a b s).1 : Nat), .int .i64 ((order2 ltInt d a b s).2.1 : Nat)]) (fun _ => uo g n c d :: blk q 3 [.int .i64 (((order2 ltInt d a b s).2.2 : Nat) : Int)] :: K)) := by
 refine fe_ Tryz.func221 Tryz.ntmps221 [(0, .slice (some ⟨g, 0, none⟩) n c), (1, .int .i64 (a : Nat)), (2, .int .i64 (b : Nat)), (3, .pointer (some ⟨q, 0, none⟩))] ?_
 cases hl : ltInt d[b]! d[a]! with
 | true =>
  rw [show order2 ltInt d a b s = (b, a, s + 1) by unfold order2; rw [if_pos hl]]; dsimp only; refine go_ ?_; refine sq_region (by kernel_rfl) (by kernel_rfl) ?_
  repeat refine rq_ ?_
  refine WQ_call rfl rfl (by kernel_rfl) rfl (qless_ok (lt_k (by omega) (by omega) hl)) ?_
  repeat refine rq_ ?_
  refine sq_end ?_; refine go_ ?_; rw [show ((s : Int) + 1) = ((s + 1 : Nat) : Int) by omega]; exact r2_ ()
 | false =>
  rw [show order2 ltInt d a b s = (a, b, s) by unfold order2; rw [if_neg (by simp [hl])]]; dsimp only; refine go_ ?_; refine sq_region (by kernel_rfl) (by kernel_rfl) ?_
  repeat refine rq_ ?_
  refine WQ_call rfl rfl (by kernel_rfl) rfl (qless_ok (lt_k (by omega) (by omega) hl)) ?_
  repeat refine rq_ ?_
  refine sq_end ?_; refine go_ ?_; exact r2_ ()
theorem median_le {d : Array Int} {a b e s : Nat} : (median ltInt d a b e s).2 ≤ s + 3 := by
 have h1 := order2_le (d := d) (a := a) (b := b) (s := s)
 have h2 := order2_le (d := d) (a := (order2 ltInt d a b s).2.1) (b := e) (s := (order2 ltInt d a b s).2.2)
 have h3 := order2_le (d := d) (a := (order2 ltInt d a b s).1) (b := (order2 ltInt d (order2 ltInt d a b s).2.1 e (order2 ltInt d a b s).2.2).1) (s := (order2 ltInt d (order2 ltInt d a b s).2.1 e (order2 ltInt d a b s).2.2).2.2)
 show (order2 ltInt d (order2 ltInt d a b s).1 (order2 ltInt d (order2 ltInt d a b s).2.1 e (order2 ltInt d a b s).2.2).1 (order2 ltInt d (order2 ltInt d a b s).2.1 e (order2 ltInt d a b s).2.2).2.2).2.2 ≤ s + 3
 omega
theorem median_ok {K : List Fa} {g n c q s : Nat} {d : Array Int} {a b e : Nat} (hd : d.size = n) (ha : a < n) (hb : b < n) (he : e < n) (hs : s ≤ 90) :
  Fn Tryz.prog 209 #[.slice (some ⟨g, 0, none⟩) n c, .int .i64 (a : Nat), .int .i64 (b : Nat), .int .i64 (e : Nat), .pointer (some ⟨q, 0, none⟩)] (uo g n c d :: blk q 3 [.int .i64 (s : Nat)] :: K) (Ret (fun _ : Unit => True) (fun _ => .int .i64 ((median ltInt d a b e s).1 : Nat)) (fun _ => uo g n c d :: blk q 3 [.int .i64 (((median ltInt d a b e s).2 : Nat) : Int)] :: K)) := by
 refine fe_ Tryz.func209 Tryz.ntmps209 [(0, .slice (some ⟨g, 0, none⟩) n c), (1, .int .i64 (a : Nat)), (2, .int .i64 (b : Nat)), (3, .int .i64 (e : Nat)), (4, .pointer (some ⟨q, 0, none⟩))] ?_
 have h1 := order2_mem (d := d) (s := s) ha hb
 have l1 := order2_le (d := d) (a := a) (b := b) (s := s)
 have hm : median ltInt d a b e s = ((order2 ltInt d (order2 ltInt d a b s).1 (order2 ltInt d (order2 ltInt d a b s).2.1 e (order2 ltInt d a b s).2.2).1 (order2 ltInt d (order2 ltInt d a b s).2.1 e (order2 ltInt d a b s).2.2).2.2).2.1, (order2 ltInt d (order2 ltInt d a b s).1 (order2 ltInt d (order2 ltInt d a b s).2.1 e (order2 ltInt d a b s).2.2).1 (order2 ltInt d (order2 ltInt d a b s).2.1 e (order2 ltInt d a b s).2.2).2.2).2.2) := rfl
 rw [hm]; dsimp only; refine go_ ?_; refine slc_ rfl rfl sub_ (order2_ok (s := s) hd ha hb (by omega)) ?_; rintro _ -
 generalize order2 ltInt d a b s = r1 at h1 l1 ⊢
 obtain ⟨x1, y1, z1⟩ := r1
 dsimp only at h1 l1 ⊢
 have h2 := order2_mem (d := d) (s := z1) h1.2 he
 have l2 := order2_le (d := d) (a := y1) (b := e) (s := z1)
 refine go_ ?_; refine slc_ rfl rfl sub_ (order2_ok (s := z1) hd h1.2 he (by omega)) ?_; rintro _ -
 generalize order2 ltInt d y1 e z1 = r2 at h2 l2 ⊢
 obtain ⟨x2, y2, z2⟩ := r2
 dsimp only at h2 l2 ⊢
 refine go_ ?_; refine slc_ rfl rfl sub_ (order2_ok (s := z2) hd h1.1 h2.1 (by omega)) ?_; rintro _ -
 generalize order2 ltInt d x1 x2 z2 = r3
 obtain ⟨x3, y3, z3⟩ := r3
 dsimp only; refine go_ ?_; exact r1_ ()
def hintV (x : Hint) : Int := match x with
 | .unknown => 0
 | .increasing => 1
 | .decreasing => 2
theorem piv_eq {d : Array Int} {a h : Nat} (h8 : 8 ≤ h) (h50 : h < 50) : choosePivot ltInt d a (a + h) = ((median ltInt d (a + h / 4 * 1) (a + h / 4 * 2) (a + h / 4 * 3) 0).1, if (median ltInt d (a + h / 4 * 1) (a + h / 4 * 2) (a + h / 4 * 3) 0).2 = 0 then .increasing else .unknown) := by
 have hm := median_le (d := d) (a := a + h / 4 * 1) (b := a + h / 4 * 2) (e := a + h / 4 * 3) (s := 0)
 unfold choosePivot
 rw [show a + h - a = h by omega]
 simp only [if_pos h8, if_neg (show ¬ h ≥ 50 by omega)]
 congr 1
 by_cases h0 : (median ltInt d (a + h / 4 * 1) (a + h / 4 * 2) (a + h / 4 * 3) 0).2 = 0
 ·rw [if_pos h0, if_pos h0]
 ·rw [if_neg h0, if_neg h0, if_neg (by omega)]
theorem piv_ok {K : List Fa} {g n c : Nat} {d : Array Int} {a h : Nat} (hd : d.size = n) (hb : a + h ≤ n) (h8 : 8 ≤ h) (h50 : h < 50) (hn : n ≤ 1000000) :
  Fn Tryz.prog 179 #[.slice (some ⟨g, 0, none⟩) n c, .int .i64 (a : Nat), .int .i64 ((a + h : Nat) : Int)] (uo g n c d :: K) (Ret (fun _ : Unit => True) (fun _ => .tuple #[.int .i64 ((choosePivot ltInt d a (a + h)).1 : Nat), .int .i64 (hintV (choosePivot ltInt d a (a + h)).2)]) (fun _ => uo g n c d :: K)) := by
 refine fe_ Tryz.func179 Tryz.ntmps179 [(0, .slice (some ⟨g, 0, none⟩) n c), (1, .int .i64 (a : Nat)), (2, .int .i64 ((a + h : Nat) : Int))] ?_; rw [piv_eq h8 h50]
 have hm := median_le (d := d) (a := a + h / 4 * 1) (b := a + h / 4 * 2) (e := a + h / 4 * 3) (s := 0)
 refine go_ ?_; refine al_ ?_; intro q; rw [show (((a + h : Nat) : Int) - a) = h by omega]; refine go_ ?_; rw [show ((a : Int) + (h : Int) / 4 * 1) = ((a + h / 4 * 1 : Nat) : Int) by omega, show ((a : Int) + (h : Int) / 4 * 2) = ((a + h / 4 * 2 : Nat) : Int) by omega, show ((a : Int) + (h : Int) / 4 * 3) = ((a + h / 4 * 3 : Nat) : Int) by omega]; refine slc_ rfl rfl sub_ (median_ok (s := 0) hd (by omega) (by omega) (by omega) (by omega)) ?_; rintro _ -
 generalize median ltInt d (a + h / 4 * 1) (a + h / 4 * 2) (a + h / 4 * 3) 0 = r at hm ⊢
 obtain ⟨x, y⟩ := r
 dsimp only at hm ⊢
 by_cases h0 : y = 0
 ·subst h0; rw [if_pos rfl]; refine go_ ?_; exact r2_ ()
 ·rw [if_neg h0]; refine go_ ?_; exact r2_ ()
end
section
theorem sor_q (k : ψ) (h : Hide ψ → φ := by (intro k; (first | refine sc_seq ?_ | refine sl_nil ?_ | refine se_seq ?_ | refine sc_cond rfl (by constructor) ?_ | refine sc_skip ?_ | refine sc_block ?_ | refine se_blk (by first | exact .n | exact .h | exact .m rfl | exact .r | exact .p) ?_ | refine sc_exit ?_ | refine se_pass (by constructor) ?_ | refine sc_ret ?_); exact k.out)) : φ := h ⟨k⟩
theorem uo_size {g n c : Nat} {d : Array Int} {K : List Fa} : ∀ w, Sep w (uo g n c d :: K) → d.size = n := fun w hw => by
 have h := (Vw.of_own (e := 36) (size := 1) (A := some ⟨g, 0, none⟩) (n := n) (c := c) (xs := nums .u64 d.toList) (L := uo g n c d :: K) .here w hw).1
 simpa [nums] using h
theorem piv_hint {d : Array Int} {a h : Nat} (h8 : 8 ≤ h) (h50 : h < 50) : (choosePivot ltInt d a (a + h)).2 = .increasing ∨ (choosePivot ltInt d a (a + h)).2 = .unknown := by
 rw [piv_eq h8 h50]; dsimp only
 split <;> simp
theorem parteq_range {d : Array Int} {a b p : Nat} (hab : a < b) (hb : b ≤ d.size) : a < (partitionEqual ltInt d a b p).1 ∧ (partitionEqual ltInt d a b p).1 ≤ b := by
 have h := partEqLoop_spec ltInt a b _ (a + 1) (b - 1) (swp d a p) (Nat.le_refl _) (by omega) (by omega) (by omega) (by rw [size_swp]; exact hb) (fun t h1 h2 => by omega) (fun t h1 h2 => by omega)
 exact ⟨h.1, h.2.1⟩
theorem part_range {d : Array Int} {a b p : Nat} (hp : a ≤ p ∧ p < b) (hb : b ≤ d.size) : a ≤ (partition ltInt d a b p).1 ∧ (partition ltInt d a b p).1 < b := by
 have h := partition_holds ltInt swo_ltInt d a b p hp.1 hp.2 hb
 exact ⟨h.1, h.2.1⟩
theorem pdq_round {d d1 : Array Int} {a h l l1 x : Nat} {wb wp : Bool} {hi : Hint} (h12 : 12 < h) (h50 : h < 50) (hl : l ≠ 0) (hb : a + h ≤ d1.size) (hd1 : (if (!wb) = true then breakPatterns d a (a + h) else d) = d1) (hl1 : (if (!wb) = true then l - 1 else l) = l1) (hc : choosePivot ltInt d1 a (a + h) = (x, hi)) (hx : a ≤ x ∧ x < a + h) :
  pdq ltInt d a (a + h) l wb wp = if (wb && wp && decide (hi = .increasing)) = true ∧ scanSorted ltInt d1 (a + h) (a + 1) = a + h then d1 else
   if (decide (0 < a) && !ltInt d1[a - 1]! d1[x]!) = true then pdq ltInt (partitionEqual ltInt d1 a (a + h) x).2 (partitionEqual ltInt d1 a (a + h) x).1 (a + h) l1 wb wp else
   if (partition ltInt d1 a (a + h) x).1 - a < a + h - (partition ltInt d1 a (a + h) x).1 then
    pdq ltInt (pdq ltInt (partition ltInt d1 a (a + h) x).2.2 a (partition ltInt d1 a (a + h) x).1 l1 true true) ((partition ltInt d1 a (a + h) x).1 + 1) (a + h) l1 (decide ((partition ltInt d1 a (a + h) x).1 - a ≥ h / 8)) (partition ltInt d1 a (a + h) x).2.1
   else
    pdq ltInt (pdq ltInt (partition ltInt d1 a (a + h) x).2.2 ((partition ltInt d1 a (a + h) x).1 + 1) (a + h) l1 true true) a (partition ltInt d1 a (a + h) x).1 l1 (decide (a + h - (partition ltInt d1 a (a + h) x).1 ≥ h / 8)) (partition ltInt d1 a (a + h) x).2.1 := by
 have hh : hi ≠ .decreasing := by
  have := piv_hint (d := d1) (a := a) (h := h) (by omega) h50
  rw [hc] at this
  rcases this with e | e <;> (dsimp only at e; rw [e]; decide)
 rw [pdq, if_neg (show ¬ a + h - a ≤ 12 by omega), if_neg hl]; dsimp only; rw [hd1, hl1, hc]; dsimp only; rw [if_neg hh, if_neg hh, if_neg hh, show a + h - a = h by omega, partial_eq (by omega)]
 have he := parteq_range (p := x) (show a < a + h by omega) hb
 have hp := part_range hx hb
 have hp2 := partition_holds ltInt swo_ltInt d1 a (a + h) x hx.1 hx.2 hb
 by_cases hq : (wb && wp && decide (hi = .increasing)) = true
 ·have hq' : ((wb && wp) = true ∧ hi = .increasing) := by simpa [Bool.and_eq_true, and_assoc] using hq
  by_cases hs : scanSorted ltInt d1 (a + h) (a + 1) = a + h
  ·simp [hq'.1, hq'.2, hs]
  ·simp only [hq'.1, hq'.2, hs]
   simp [he, hp]
 ·rw [if_neg hq]; dsimp only; rw [if_neg Bool.false_ne_true, if_neg (fun hx2 : (wb && wp && decide (hi = .increasing)) = true ∧ scanSorted ltInt d1 (a + h) (a + 1) = a + h => hq hx2.1)]
  by_cases hr : (decide (0 < a) && !ltInt d1[a - 1]! d1[x]!) = true
  ·rw [if_pos hr, if_pos hr]
   simp only [dif_pos he]
  ·rw [if_neg hr, if_neg hr]
   simp only [dif_pos hp]
open pQa
theorem o1_Qg (h : φ := by exact se_mid () has_ sub_ trivial) : φ := h
theorem pdq_ok : ∀ (k : Nat) {K : List Fa} {g n c a b l : Nat} {d : Array Int}, d.size = n → a ≤ b → b ≤ n → n < 50 → l ≤ 64 → b - a ≤ k →
  Fn Tryz.prog 146 #[.slice (some ⟨g, 0, none⟩) n c, .int .i64 (a : Nat), .int .i64 (b : Nat), .int .i64 (l : Nat)] (uo g n c d :: K) (Ret (fun _ : Unit => True) (fun _ => .tuple #[]) (fun _ => uo g n c (pdq ltInt d a b l true true) :: K)) := by
 intro k
 induction k using Nat.strongRecOn with
 | _ k ih =>
 intro K g n c a b l d hd hab hb hn hl hk; refine fe_ Tryz.func146 Tryz.ntmps146 [(0, .slice (some ⟨g, 0, none⟩) n c), (1, .int .i64 (a : Nat)), (2, .int .i64 (b : Nat)), (3, .int .i64 (l : Nat))] ?_
 generalize hT : pdq ltInt d a b l true true = T
 refine go_ ?_; refine sc_for (α := Nat × Nat × Nat × Bool × Bool × Array Int) (fun p => [(0, .slice (some ⟨g, 0, none⟩) n c), (1, .int .i64 (p.1 : Nat)), (2, .int .i64 ((p.1 + p.2.1) : Nat)), (3, .int .i64 (p.2.2.1 : Nat)), (8, .bool p.2.2.2.1), (9, .bool p.2.2.2.2.1)]) (fun p => uo g n c p.2.2.2.2.2 :: K) (fun p => p.2.2.2.2.2.size = n ∧ p.2.1 ≤ n ∧ p.2.1 ≤ p.1 + p.2.1 ∧ p.1 + p.2.1 ≤ n ∧ p.2.1 ≤ k ∧ p.2.2.1 ≤ 64 ∧ pdq ltInt p.2.2.2.2.2 p.1 (p.1 + p.2.1) p.2.2.1 p.2.2.2.1 p.2.2.2.2.1 = T) (fun p => p.2.1) (a, b - a, l, true, true, d) (by dsimp only; rw [show a + (b - a) = b by omega]; exact has_) sub_ ⟨hd, by dsimp only; omega, by dsimp only; omega, by dsimp only; omega, hk, hl, by dsimp only; rw [show a + (b - a) = b by omega]; exact hT⟩ ?_
 clear hT hd hab hb hl hk
 rintro ⟨a, h, l, wb, wp, e⟩ ⟨hes, -, -, hb, hk, hl, hT⟩
 dsimp only at hes hb hk hl hT ⊢
 by_cases h12 : h ≤ 12
 ·rw [pdq, if_pos (by omega)] at hT
  subst hT; refine go_ ?_; refine slc_ rfl rfl sub_ (insSort_ok hes (by omega) hb (by omega)) ?_; rintro _ -; refine go_ ?_; exact se_ret0 () trivial rfl rfl sub_
 by_cases hl0 : l = 0
 ·subst hl0
  rw [pdq, if_neg (by omega), if_pos rfl] at hT
  subst hT; refine go_ ?_; refine slc_ rfl rfl sub_ (heap_ok hes hb (by omega) (by omega)) ?_; rintro _ -; refine go_ ?_; exact se_ret0 () trivial rfl rfl sub_
 refine go_ ?_; refine sc_join (α := Nat × Array Int) (fun q => (10, .int .i64 (h : Nat)) :: [(0, .slice (some ⟨g, 0, none⟩) n c), (1, .int .i64 (a : Nat)), (2, .int .i64 ((a + h) : Nat)), (3, .int .i64 (q.1 : Nat)), (8, .bool wb), (9, .bool wp)]) (fun q => uo g n c q.2 :: K) (fun q => (if (!wb) = true then breakPatterns e a (a + h) else e) = q.2 ∧ (if (!wb) = true then l - 1 else l) = q.1 ∧ q.2.size = n) ?_ ?_
 ·rw [show (((a + h : Nat) : Int) - a) = (h : Int) by omega]
  cases wb with
  | true =>
   refine go_ ?_; exact se_mid (l, e) has_ sub_ ⟨rfl, rfl, hes⟩
  | false =>
   refine go_ ?_; refine slc_ rfl rfl sub_ (brk_ok hes hb (by omega) (by omega) (by omega)) ?_; rintro _ -; refine sl_know uo_size ?_; intro hbs; refine go_ ?_; rw [show ((l : Int) - 1) = ((l - 1 : Nat) : Int) by omega]; exact se_mid (l - 1, breakPatterns e a (a + h)) has_ sub_ ⟨rfl, rfl, hbs⟩
 rintro ⟨l1, e1⟩ ⟨he1, hl1, hes1⟩
 dsimp only at he1 hl1 hes1 ⊢
 have hl1' : l1 ≤ 64 := by rw [← hl1]; split <;> omega
 obtain ⟨⟨x, hi⟩, hc⟩ : ∃ c, choosePivot ltInt e1 a (a + h) = c := ⟨_, rfl⟩
 have hx := choosePivot_holds ltInt e1 a (a + h) (by omega)
 rw [hc] at hx
 dsimp only at hx
 have hh := piv_hint (d := e1) (a := a) (h := h) (by omega) (by omega)
 rw [hc] at hh
 dsimp only at hh
 rw [pdq_round (by omega) (by omega) hl0 (by omega) he1 hl1 hc hx] at hT
 clear he1 hl1 hl0 hes hl
 refine go_ ?_; refine slc_ rfl rfl sub_ (piv_ok hes1 hb (by omega) (by omega) (by omega)) ?_; rintro _ -; rw [hc]; dsimp only
 repeat (first | refine su_ ?_ | refine sor_q ?_)
 refine sc_join (α := Unit) (fun _ => (10, .int .i64 (h : Nat)) :: (11, .int .i64 (x : Nat)) :: (12, .int .i64 (hintV hi)) :: (50, .bool false) :: [(0, .slice (some ⟨g, 0, none⟩) n c), (1, .int .i64 (a : Nat)), (2, .int .i64 ((a + h) : Nat)), (3, .int .i64 (l1 : Nat)), (8, .bool wb), (9, .bool wp)]) (fun _ => uo g n c e1 :: K) (fun _ => True) ?_ ?_
 ·rcases hh with rfl | rfl
  ·rw [show hintV .increasing = 1 from rfl]; refine go_ ?_; exact o1_Qg
  ·rw [show hintV .unknown = 0 from rfl]; refine go_ ?_; exact o1_Qg
 rintro _ -
 repeat (first | refine su_ ?_ | refine sor_q ?_)
 refine sc_join (α := Unit) (fun _ => (10, .int .i64 (h : Nat)) :: (11, .int .i64 (x : Nat)) :: (68, .bool (wb && wp && decide (hi = .increasing))) :: [(0, .slice (some ⟨g, 0, none⟩) n c), (1, .int .i64 (a : Nat)), (2, .int .i64 ((a + h) : Nat)), (3, .int .i64 (l1 : Nat)), (8, .bool wb), (9, .bool wp)]) (fun _ => uo g n c e1 :: K) (fun _ => True) ?_ ?_
 ·rcases hh with rfl | rfl <;> cases wb <;> cases wp
  all_goals
   simp only [hintV]
   refine go_ ?_; exact o1_Qg
 rintro _ -
 clear hh
 generalize hq : (wb && wp && decide (hi = .increasing)) = q at hT ⊢
 refine sc_join (α := Unit) (fun _ => (10, .int .i64 (h : Nat)) :: (11, .int .i64 (x : Nat)) :: [(0, .slice (some ⟨g, 0, none⟩) n c), (1, .int .i64 (a : Nat)), (2, .int .i64 ((a + h) : Nat)), (3, .int .i64 (l1 : Nat)), (8, .bool wb), (9, .bool wp)]) (fun _ => uo g n c e1 :: K) (fun _ => ¬ (q = true ∧ scanSorted ltInt e1 (a + h) (a + 1) = a + h)) ?_ ?_
 ·cases q with
  | false =>
   refine go_ ?_; exact se_mid () has_ sub_ (by simp)
  | true =>
   refine go_ ?_; refine slc_ rfl rfl sub_ (partial_ok hes1 (by omega) hb (by omega) (by omega)) ?_; rintro _ -
   by_cases hs : scanSorted ltInt e1 (a + h) (a + 1) = a + h
   ·rw [decide_eq_true hs]
    rw [if_pos ⟨rfl, hs⟩] at hT
    subst hT; refine go_ ?_; exact se_ret0 () trivial rfl rfl sub_
   ·rw [decide_eq_false hs]; refine go_ ?_; exact se_mid () has_ sub_ (fun hx2 => hs hx2.2)
 rintro _ hns
 rw [if_neg hns] at hT
 clear hns hq
 refine go_ ?_; refine sc_join (α := Unit) (fun _ => (10, .int .i64 (h : Nat)) :: (11, .int .i64 (x : Nat)) :: (87, .bool (decide (0 < a) && !ltInt e1[a - 1]! e1[x]!)) :: [(0, .slice (some ⟨g, 0, none⟩) n c), (1, .int .i64 (a : Nat)), (2, .int .i64 ((a + h) : Nat)), (3, .int .i64 (l1 : Nat)), (8, .bool wb), (9, .bool wp)]) (fun _ => uo g n c e1 :: K) (fun _ => True) ?_ ?_
 ·by_cases ha : 0 < a
  ·rw [decide_eq_true ha]
   cases hl2 : ltInt e1[a - 1]! e1[x]! with
   | true =>
    refine sq_region (by kernel_rfl) (by kernel_rfl) ?_
    repeat refine rq_ ?_
    refine WQ_call rfl rfl (by kernel_rfl) rfl (qless_ok (lt_k (by omega) (by omega) hl2)) ?_
    repeat refine rq_ ?_
    refine sq_end ?_; refine go_ ?_; exact o1_Qg
   | false =>
    refine sq_region (by kernel_rfl) (by kernel_rfl) ?_
    repeat refine rq_ ?_
    refine WQ_call rfl rfl (by kernel_rfl) rfl (qless_ok (lt_k (by omega) (by omega) hl2)) ?_
    repeat refine rq_ ?_
    refine sq_end ?_; refine go_ ?_; exact o1_Qg
  ·rw [decide_eq_false ha, Bool.false_and]; refine sq_region (by kernel_rfl) (by kernel_rfl) ?_
   repeat refine rq_ ?_
   refine sq_end ?_; refine go_ ?_; exact o1_Qg
 rintro _ -
 generalize hr : (decide (0 < a) && !ltInt e1[a - 1]! e1[x]!) = r at hT ⊢
 clear hr
 cases r with
 | true =>
  rw [if_pos rfl] at hT
  have hrg := parteq_range (d := e1) (a := a) (b := a + h) (p := x) (by omega) (by omega)
  refine go_ ?_; refine slc_ rfl rfl sub_ (parteq_ok hes1 (by omega) hb hx (by omega)) ?_; rintro _ -; refine sl_know uo_size ?_
  generalize partitionEqual ltInt e1 a (a + h) x = r at hT hrg ⊢
  obtain ⟨m, e2⟩ := r
  dsimp only at hT hrg ⊢
  intro hes2; refine go_ ?_; exact se_round (m, a + h - m, l1, wb, wp, e2) (by dsimp only; rw [show m + (a + h - m) = a + h by omega]; exact has_) sub_ ⟨hes2, by dsimp only; omega, by dsimp only; omega, by dsimp only; omega, by dsimp only; omega, hl1', by dsimp only; rw [show m + (a + h - m) = a + h by omega]; exact hT⟩ (by dsimp only; omega)
 | false =>
  rw [if_neg (by decide)] at hT
  have hrg := part_range (d := e1) (a := a) (b := a + h) (p := x) hx (by omega)
  refine go_ ?_; refine slc_ rfl rfl sub_ (part_ok hes1 (by omega) hb hx (by omega)) ?_; rintro _ -; refine sl_know uo_size ?_
  generalize partition ltInt e1 a (a + h) x = r at hT hrg ⊢
  obtain ⟨m, ap, e2⟩ := r
  dsimp only at hT hrg ⊢
  intro hes2
  by_cases hm : m - a < a + h - m
  ·rw [if_pos hm] at hT
   by_cases h8 : m - a ≥ h / 8
   ·rw [decide_eq_true h8] at hT
    refine go_ ?_; refine slc_ rfl rfl sub_ (ih (m - a) (by omega) (l := l1) hes2 hrg.1 (by omega) hn hl1' (Nat.le_refl _)) ?_; rintro _ -; refine sl_know uo_size ?_; intro hes3; refine go_ ?_; rw [show ((m : Int) + 1) = ((m + 1 : Nat) : Int) by omega]; exact se_round (m + 1, a + h - (m + 1), l1, true, ap, pdq ltInt e2 a m l1 true true) (by dsimp only; rw [show m + 1 + (a + h - (m + 1)) = a + h by omega]; exact has_) sub_ ⟨hes3, by dsimp only; omega, by dsimp only; omega, by dsimp only; omega, by dsimp only; omega, hl1', by dsimp only; rw [show m + 1 + (a + h - (m + 1)) = a + h by omega]; exact hT⟩ (by dsimp only; omega)
   ·rw [decide_eq_false h8] at hT
    refine go_ ?_; refine slc_ rfl rfl sub_ (ih (m - a) (by omega) (l := l1) hes2 hrg.1 (by omega) hn hl1' (Nat.le_refl _)) ?_; rintro _ -; refine sl_know uo_size ?_; intro hes3; refine go_ ?_; rw [show ((m : Int) + 1) = ((m + 1 : Nat) : Int) by omega]; exact se_round (m + 1, a + h - (m + 1), l1, false, ap, pdq ltInt e2 a m l1 true true) (by dsimp only; rw [show m + 1 + (a + h - (m + 1)) = a + h by omega]; exact has_) sub_ ⟨hes3, by dsimp only; omega, by dsimp only; omega, by dsimp only; omega, by dsimp only; omega, hl1', by dsimp only; rw [show m + 1 + (a + h - (m + 1)) = a + h by omega]; exact hT⟩ (by dsimp only; omega)
  ·rw [if_neg hm] at hT
   by_cases h8 : a + h - m ≥ h / 8
   ·rw [decide_eq_true h8] at hT
    refine go_ ?_; rw [show ((m : Int) + 1) = ((m + 1 : Nat) : Int) by omega]; refine slc_ rfl rfl sub_ (ih (a + h - (m + 1)) (by omega) (l := l1) hes2 (by omega) hb hn hl1' (Nat.le_refl _)) ?_; rintro _ -; refine sl_know uo_size ?_; intro hes3; refine go_ ?_; exact se_round (a, m - a, l1, true, ap, pdq ltInt e2 (m + 1) (a + h) l1 true true) (by dsimp only; rw [show a + (m - a) = m by omega]; exact has_) sub_ ⟨hes3, by dsimp only; omega, by dsimp only; omega, by dsimp only; omega, by dsimp only; omega, hl1', by dsimp only; rw [show a + (m - a) = m by omega]; exact hT⟩ (by dsimp only; omega)
   ·rw [decide_eq_false h8] at hT
    refine go_ ?_; rw [show ((m : Int) + 1) = ((m + 1 : Nat) : Int) by omega]; refine slc_ rfl rfl sub_ (ih (a + h - (m + 1)) (by omega) (l := l1) hes2 (by omega) hb hn hl1' (Nat.le_refl _)) ?_; rintro _ -; refine sl_know uo_size ?_; intro hes3; refine go_ ?_; exact se_round (a, m - a, l1, false, ap, pdq ltInt e2 (m + 1) (a + h) l1 true true) (by dsimp only; rw [show a + (m - a) = m by omega]; exact has_) sub_ ⟨hes3, by dsimp only; omega, by dsimp only; omega, by dsimp only; omega, by dsimp only; omega, hl1', by dsimp only; rw [show a + (m - a) = m by omega]; exact hT⟩ (by dsimp only; omega)
theorem bl_64 : ∀ h, h < 50 → Lib.bitLen h = bitsLen h ∧ bitsLen h ≤ 6 := fun h h5 => ⟨(bl_50 h h5).1, (bl_50 h h5).2.1⟩
theorem sort64_ok {K : List Fa} {g n c : Nat} {d : Array Int} (hd : d.size = n) (hn : n < 50) :
  Fn Tryz.prog 118 #[.slice (some ⟨g, 0, none⟩) n c] (uo g n c d :: K) (Ret (fun _ : Unit => True) (fun _ => .tuple #[]) (fun _ => uo g n c (Go.Sort.sort ltInt d) :: K)) := by
 refine fe_ Tryz.func118 Tryz.ntmps118 [(0, .slice (some ⟨g, 0, none⟩) n c)] ?_
 obtain ⟨e1, e2⟩ := bl_64 n hn
 have e0 : Go.Sort.sort ltInt d = pdq ltInt d 0 n (bitsLen n) true true := by unfold Go.Sort.sort; rw [hd]
 rw [e0]; refine go_ ?_; refine slc_ rfl rfl sub_ (fn_eq (len_c _ (by omega) (by omega))) ?_; rintro _ -; rw [Int.toNat_natCast, e1]; refine go_ ?_; refine slc_ rfl rfl sub_ (pdq_ok n (a := 0) (l := bitsLen n) hd (Nat.zero_le _) (Nat.le_refl _) hn (by omega) (by omega)) ?_; rintro _ -; refine go_ ?_; exact se_end0 () trivial rfl rfl sub_
end
end
section
open Go.RowKit Go.MapKept
attribute [local irreducible] Go.Calls Go.Exit.then Go.Exit.inBlock Go.bodyPost Go.Code.wp Go.wpList hashL ofId
section
def BK.core (b : BK) : Int × List Int × Int × Id × Bool := (b.st, b.l, b.m, b.k, b.cl)
theorem bfind_eq {fs : List BK} (hk : fs.Pairwise (fun a b => a.st ≠ b.st)) {b : BK} (hb : b ∈ fs) : bfind fs b.st = some b := by
 cases h : bfind fs b.st with
 | none => exact absurd rfl (bfind_none h b hb)
 | some c =>
  obtain ⟨h1, h2⟩ := bfind_some h
  rw [pw_one (f := BK.st) hk h1 hb h2]
theorem strip_some {q fs : List BK} (h : (q.map (fun b => some b.core)).Perm (fs.map (fun b => some b.core))) : (q.map BK.core).Perm (fs.map BK.core) := by
 have h1 := h.filterMap id
 rw [List.filterMap_map, List.filterMap_map] at h1
 have e : ∀ l : List BK, l.filterMap (id ∘ fun b => some b.core) = l.map BK.core := fun l => by
  rw [← List.filterMap_eq_map]
  rfl
 rwa [e, e] at h1
theorem list20 {cs : List Value} (h : cs.length = 20) : ∃ a0 a1 a2 a3 a4 a5 a6 a7 a8 a9 a10 a11 a12 a13 a14 a15 a16 a17 a18 a19, cs = [a0, a1, a2, a3, a4, a5, a6, a7, a8, a9, a10, a11, a12, a13, a14, a15, a16, a17, a18, a19] := by
 match cs, h with
 | [a0, a1, a2, a3, a4, a5, a6, a7, a8, a9, a10, a11, a12, a13, a14, a15, a16, a17, a18, a19], _ => exact ⟨a0, a1, a2, a3, a4, a5, a6, a7, a8, a9, a10, a11, a12, a13, a14, a15, a16, a17, a18, a19, rfl⟩
theorem build_b20 (a0 a1 a2 a3 a4 a5 a6 a7 a8 a9 a10 a11 a12 a13 a14 a15 a16 a17 a18 a19 : Value) (W : World) : (Instr.buildSlice 82 1 #[(0, .agg #[a0, a1, a2, a3, a4, a5, a6, a7, a8, a9, a10, a11, a12, a13, a14, a15, a16, a17, a18, a19])]).run Tryz.prog W = .ok (.slice (some ⟨W.heap.size, 0, none⟩) 1 1) (W.alloc (.cells #[a0, a1, a2, a3, a4, a5, a6, a7, a8, a9, a10, a11, a12, a13, a14, a15, a16, a17, a18, a19] 70)) := by kernel_rfl
theorem build_bk {cs : List Value} (h : cs.length = 20) (W : World) : (Instr.buildSlice 82 1 #[(0, .agg cs.toArray)]).run Tryz.prog W = .ok (.slice (some ⟨W.heap.size, 0, none⟩) 1 1) (W.alloc (.cells cs.toArray 70)) := by
 obtain ⟨a0, a1, a2, a3, a4, a5, a6, a7, a8, a9, a10, a11, a12, a13, a14, a15, a16, a17, a18, a19, h⟩ := list20 h
 rw [h]; exact build_b20 a0 a1 a2 a3 a4 a5 a6 a7 a8 a9 a10 a11 a12 a13 a14 a15 a16 a17 a18 a19 W
theorem infoBk : (Tryz.prog.info? 70).map (fun i => (i.zero, i.size, i.bytes)) = some (some (.agg bzL.toArray), 20, 64) := by kernel_rfl
theorem infoU : (Tryz.prog.info? 36).map (fun i => (i.zero, i.size, i.bytes)) = some (some (.int .u64 0), 1, 8) := by kernel_rfl
theorem nums_one {k : IntKind} (xs : List Int) : ∀ v ∈ nums k xs, v.oneCell' = true := by
 intro v hv
 obtain ⟨x, _, rfl⟩ := List.mem_map.1 hv
 rfl
theorem nums_app {k : IntKind} (a b : List Int) : nums k a ++ nums k b = nums k (a ++ b) := by simp [nums]
theorem sorted64 (zs : List Int) : (Go.Sort.sort Go.Sort.ltInt zs.toArray).toList = zs.mergeSort (fun x y => decide (x ≤ y)) := Go.Sort.sortInt zs
theorem ms_perm (zs : List Int) : (zs.mergeSort (fun x y => decide (x ≤ y))).Perm zs := List.mergeSort_perm ..
theorem ms_sorted (zs : List Int) : (zs.mergeSort (fun x y => decide (x ≤ y))).Pairwise (· ≤ ·) := by
 have h := List.pairwise_mergeSort (le := fun x y : Int => decide (x ≤ y)) (fun a b c h1 h2 => by simp only [decide_eq_true_eq] at *; omega) (fun a b => by simp only [Bool.or_eq_true, decide_eq_true_eq]; omega) zs
 exact h.imp (fun {a b} h => by simpa using h)
theorem strict_of {zs : List Int} (h : zs.Pairwise (· ≤ ·)) (hn : zs.Nodup) : zs.Pairwise (· < ·) := by
 have := h.and hn
 exact this.imp (fun {a b} ⟨h1, h2⟩ => by omega)
namespace pGn
theorem nthx_ (h : φ := by first | exact bkC_n0 | exact bkC_n1 | exact bkC_n2 | exact bkC_n19' | exact tc_n0 | exact tc_n1 | assumption) : φ := h
theorem midx_ (h : φ := by first | exact boC_mt | exact boC_mr | exact bkC_mid | exact Ta.mid _ | exact tc_mid | exact Mid.all) : φ := h
theorem szx_ (h : φ := by ((try simp only [bkC_len tc_len, tc_len, BK.len, bytes_length, Id.len]); (first | done | rfl); first | done | fail)) : φ := h
theorem onex_ (h : φ := by first | exact BK.one _ | exact bkC_one tc_one | exact tc_one | exact Ta.one _ | exact Rl.one _ | exact one_bytes _) : φ := h
theorem setx_ (h : φ := by first | exact tc_set0 | exact bkC_set19 tc_len) : φ := h
end pGn
open pGn
theorem ins_nil {K : List Fa} : Fn Tryz.prog 176 #[.slice none 0 0, .int .i64 0, .int .i64 0] K (Ret (fun _ : Unit => True) (fun _ => .tuple #[]) (fun _ => K)) := by
 refine fe_ Tryz.func176 Tryz.ntmps176 [(0, .slice none 0 0), (1, .int .i64 0), (2, .int .i64 0)] ?_; refine go_ ?_; refine sc_for (α := Unit) (fun _ => [(2, .int .i64 0), (6, .int .i64 1)]) (fun _ => K) (fun _ => True) (fun _ => 0) () has_ sub_ trivial ?_; rintro _ -; refine go_ ?_; exact se_end0 () trivial rfl rfl sub_
theorem pdq_nil {K : List Fa} : Fn Tryz.prog 146 #[.slice none 0 0, .int .i64 0, .int .i64 0, .int .i64 0] K (Ret (fun _ : Unit => True) (fun _ => .tuple #[]) (fun _ => K)) := by
 refine fe_ Tryz.func146 Tryz.ntmps146 [(0, .slice none 0 0), (1, .int .i64 0), (2, .int .i64 0), (3, .int .i64 0)] ?_; refine go_ ?_; refine sc_for (α := Unit) (fun _ => [(0, .slice none 0 0), (1, .int .i64 0), (2, .int .i64 0)]) (fun _ => K) (fun _ => True) (fun _ => 0) () has_ sub_ trivial ?_; rintro _ -; refine go_ ?_; refine slc_ rfl rfl sub_ ins_nil ?_; rintro _ -; refine go_ ?_; exact se_ret0 () trivial rfl rfl sub_
theorem sort64_nil {K : List Fa} : Fn Tryz.prog 118 #[.slice none 0 0] K (Ret (fun _ : Unit => True) (fun _ => .tuple #[]) (fun _ => K)) := by
 refine fe_ Tryz.func118 Tryz.ntmps118 [(0, .slice none 0 0)] ?_; refine go_ ?_; refine slc_ rfl rfl sub_ (fn_eq (len_c 0 (by decide) (by decide))) ?_; rintro _ -; rw [show ((Lib.bitLen (0 : Int).toNat : Nat) : Int) = 0 from rfl]; refine go_ ?_; refine slc_ rfl rfl sub_ pdq_nil ?_; rintro _ -; refine go_ ?_; exact se_end0 () trivial rfl rfl sub_
theorem blist_ok {K : List Fa} {g m ck : Nat} {t : Ta} {r : Rl} {fs : List BK} (hB : At (bB g t r m) K) (hM : At (bM m fs ck) K) (hS : At (bS fs) K) (hn : fs.length < 50) (hl : ∀ b ∈ fs, b.l.length ≤ 1000000) :
  Fn Tryz.prog 74 #[.pointer (some ⟨g, 0, none⟩)] K (Ret (fun q : Option Addr × Nat × List BK => (q.2.2.map BK.core).Perm (fs.map BK.core) ∧ q.2.2.Pairwise (fun a b => a.st < b.st)) (fun q => .slice q.1 q.2.2.length q.2.1) (fun q => own 70 20 q.1 q.2.2.length q.2.1 (rows BK.cells q.2.2) :: bS q.2.2 :: K)) := by
 refine fn_know (kM_nodup (M := BM) hM) ?_; rintro ⟨hnd, hks⟩
 have hks' : fs.Pairwise (fun a b => a.st ≠ b.st) := hks.imp (fun {a b} h e => h (by show Value.int .u64 a.st = .int .u64 b.st; rw [e]))
 refine fe_ Tryz.func74 Tryz.ntmps74 [(0, .pointer (some ⟨g, 0, none⟩))] ?_; refine go_ ?_; refine sl_range rfl at_ rfl rfl ?_; intro r; refine go_ ?_; refine sc_bjoin (α := List BK × Option Addr × Nat) (fun q => [(0, .pointer (some ⟨g, 0, none⟩)), (3, .slice q.2.1 q.1.length q.2.2)]) (fun q => own 36 1 q.2.1 q.1.length q.2.2 (nums .u64 (q.1.map BK.st)) :: K) (fun q => q.1.Perm fs ∧ (q.1 = [] → q.2.1 = none ∧ q.2.2 = 0)) ?_ ?_
 ·refine sc_for (α := List BK × Option Addr × Nat) (fun q => [(0, .pointer (some ⟨g, 0, none⟩)), (3, .slice q.2.1 q.1.length q.2.2), (16, .pointer (some ⟨r, 0, none⟩))]) (fun q => own 36 1 q.2.1 q.1.length q.2.2 (nums .u64 (q.1.map BK.st)) :: itr r m ck (q.1.map BM.ent) :: K) (fun q => q.1.Nodup ∧ (∀ u ∈ q.1, u ∈ fs) ∧ (q.1 = [] → q.2.1 = none ∧ q.2.2 = 0)) (fun q => fs.length - q.1.length) ([], none, 0) has_ (Sub.own_nil sub_) ⟨List.nodup_nil, (fun _ h => by cases h), fun _ => ⟨rfl, rfl⟩⟩ ?_; rintro ⟨us, A, c⟩ ⟨hun, hus, hu0⟩
  dsimp only at hun hus hu0 ⊢
  refine sc_seq ?_; refine sc_region ?_; refine sl_next rfl at_ (.there .here) (fun y hy => by obtain ⟨u, hu, rfl⟩ := List.mem_map.1 hy; exact List.mem_map_of_mem (hus u hu)) rfl (fun hall => ?_) (fun y hy hn2 => ?_)
  ·have hp : us.Perm fs := (List.perm_ext_iff_of_nodup hun hnd).2 fun x => ⟨hus x, fun hx => by
     obtain ⟨u, hu, he⟩ := List.mem_map.1 (hall _ (List.mem_map_of_mem hx))
     rwa [← kent_inj (M := BM) hks (hus u hu) hx he]⟩
   refine go_ ?_; exact se_mid (us, A, c) has_ sub_ ⟨hp, hu0⟩
  ·obtain ⟨f, hf, rfl⟩ := List.mem_map.1 hy
   have hfu : f ∉ us := fun h => hn2 (List.mem_map_of_mem h)
   have hnd' : (us ++ [f]).Nodup := List.nodup_append.2 ⟨hun, List.nodup_cons.2 ⟨by simp, List.nodup_nil⟩, fun a ha b hb e => by rw [List.mem_singleton] at hb; exact hfu (by rw [← hb, ← e]; exact ha)⟩
   have hsub : ∀ u ∈ us ++ [f], u ∈ fs := fun u h => by
    rcases List.mem_append.1 h with h | h
    ·exact hus u h
    ·rw [List.mem_singleton] at h
     rw [h]; exact hf
   obtain ⟨z, hz⟩ := sub_splitK hnd' hnd hsub
   have hlen := hz.length_eq
   rw [List.length_append, List.length_append, List.length_singleton] at hlen
   have hm : us.map BM.ent ++ [BM.ent f] = (us ++ [f]).map BM.ent := by simp
   have hv : (BM.ent f).key = .int .u64 f.st := rfl
   refine go_ ?_; rw [hv, hm]; refine go_ ?_; refine sl_build (size := 1) (e := 36) (cells := nums .u64 [f.st]) rfl (fun W => by kernel_rfl) rfl (by decide) rfl ?_; intro gb; refine sl_app rfl pick_ rfl (Vw.of_own (A := some ⟨gb, 0, none⟩) (c := 1) (e := 36) at_) (nums_one _) rfl infoU (by decide) (by decide) rfl (by unfold maxLen; omega) (by omega) ?_; intro A2 c2; rw [nums_app, show us.map BK.st ++ [f.st] = (us ++ [f]).map BK.st by simp, show us.length + 1 = (us ++ [f]).length by simp]; refine go_ ?_; exact se_round (us ++ [f], A2, c2) has_ sub_ ⟨hnd', hsub, fun h => by simp at h⟩ (by dsimp only; rw [List.length_append, List.length_singleton]; omega)
 rintro ⟨us, A, c⟩ ⟨hp, hu0⟩
 dsimp only at hp hu0 ⊢
 have hul : us.length < 50 := by rw [hp.length_eq]; exact hn
 refine sc_mid (α := List Int) (fun _ => [(0, .pointer (some ⟨g, 0, none⟩)), (3, .slice A us.length c)]) (fun zs => own 36 1 A us.length c (nums .u64 zs) :: K) (fun zs => zs = (us.map BK.st).mergeSort (fun x y => decide (x ≤ y))) ?_ ?_
 ·rcases us with _ | ⟨u, us⟩
  ·obtain ⟨rfl, rfl⟩ := hu0 rfl
   refine go_ ?_; refine slc_ rfl rfl Sub.refl sort64_nil ?_; rintro _ -; refine go_ ?_; exact se_mid [] has_ sub_ (by simp)
  ·refine sc_know (own_form_at (e := 36) (size := 1) (A := A) (m := (u :: us).length) (c := c) (xs := nums .u64 ((u :: us).map BK.st)) at_ (by simp)) ?_; rintro ⟨gs, rfl⟩; rw [← sorted64]
   generalize hus : u :: us = us2 at *
   have hsz : ((us2.map BK.st).toArray).size = us2.length := by simp
   refine go_ ?_; refine slc_ rfl rfl Sub.refl (sort64_ok (d := (us2.map BK.st).toArray) hsz hul) ?_; rintro _ -; refine go_ ?_; exact se_mid (Go.Sort.sort Go.Sort.ltInt (us2.map BK.st).toArray).toList has_ sub_ rfl
 rintro zs hzs
 have hzp : zs.Perm (fs.map BK.st) := by rw [hzs]; exact (ms_perm _).trans (hp.map _)
 have hzl : zs.length = us.length := by rw [hzp.length_eq, List.length_map, hp.length_eq]
 have hzn : zs.Nodup := hzp.nodup_iff.2 (List.pairwise_map.2 hks')
 have hzS : zs.Pairwise (· < ·) := strict_of (by rw [hzs]; exact ms_sorted _) hzn
 have hzm : ∀ s ∈ zs, ∃ b ∈ fs, b.st = s := fun s hs => List.mem_map.1 (hzp.mem_iff.1 hs)
 have hzc : (zs.map (fun s => (bfind fs s).map BK.core)).Perm (fs.map (fun b => some b.core)) := by
  have h1 := hzp.map (fun s => (bfind fs s).map BK.core)
  rw [List.map_map] at h1
  have e : fs.map ((fun s => (bfind fs s).map BK.core) ∘ BK.st) = fs.map (fun b => some b.core) := List.map_congr_left fun b hb => by
   show (bfind fs b.st).map BK.core = some b.core
   rw [bfind_eq hks' hb]
   rfl
  rwa [e] at h1
 clear hp hu0 hzs
 generalize us.length = n at hul hzl ⊢
 clear us
 refine go_ ?_; refine sc_for (α := List BK × Option Addr × Nat) (fun q => [(0, .pointer (some ⟨g, 0, none⟩)), (5, .slice q.2.1 q.1.length q.2.2), (27, .slice A n c), (28, .int .i64 n), (29, .int .i64 q.1.length)]) (fun q => own 36 1 A n c (nums .u64 zs) :: own 70 20 q.2.1 q.1.length q.2.2 (rows BK.cells q.1) :: bS q.1 :: K) (fun q => q.1.length ≤ n ∧ q.1.map BK.st = zs.take q.1.length ∧ q.1.map (fun b => some b.core) = (zs.take q.1.length).map (fun s => (bfind fs s).map BK.core)) (fun q => n - q.1.length) ([], none, 0) has_ (.cons .here (Sub.own_nil (sub_star0 sub_))) ⟨Nat.zero_le _, rfl, rfl⟩ ?_; rintro ⟨q, A', c'⟩ ⟨hqn, hqs, hqc⟩
 dsimp only at hqn hqs hqc ⊢
 by_cases hlt : q.length < n
 case neg =>
  have hqe : q.length = n := by omega
  rw [hqe, ← hzl, List.take_length] at hqs hqc
  have hfin : (q.map BK.core).Perm (fs.map BK.core) ∧ q.Pairwise (fun a b => a.st < b.st) := by
   refine ⟨strip_some (by rw [hqc]; exact hzc), ?_⟩
   have := hqs ▸ hzS
   exact List.pairwise_map.1 this
  refine go_ ?_; exact se_ret1 (A', c', q) hfin rfl rfl sub_
 refine sc_know (own_form_at (e := 36) (size := 1) (A := A) (m := n) (c := c) (xs := nums .u64 zs) at_ (by omega)) ?_; rintro ⟨gz, rfl⟩
 have hj : q.length < zs.length := by omega
 obtain ⟨b, hb, hbs⟩ := hzm zs[q.length] (List.getElem_mem hj)
 have hnz : nth (nums .u64 zs) (q.length * 1) = some (.int .u64 b.st) := by
  rw [nth_eq, Nat.mul_one]
  unfold nums
  rw [List.getElem?_map, List.getElem?_eq_getElem hj, hbs]
  rfl
 have htk : zs.take (q.length + 1) = zs.take q.length ++ [b.st] := by rw [List.take_succ_eq_append_getElem hj, hbs]
 have hr0 : Vw (own 36 1 (some ⟨gz, 0, none⟩) n c (nums .u64 zs) :: own 70 20 A' q.length c' (rows BK.cells q) :: bS q :: K) (fun w => Reads w 1 (some ⟨gz, 0, none⟩) n (nums .u64 zs)) := Vw.of_own (e := 36) .here
 refine go_ ?_; refine slc_ rfl rfl sub_ (bgetC_ok (g := g) (m := m) (ck := ck) (t := t) (fs := fs) (b := b) at_ at_ at_ hb (hl b hb)) ?_; rintro ⟨A6, c6⟩ -; dsimp only; refine go_ ?_; refine al_ ?_; intro g8; refine go_ ?_; refine sl_build (size := 20) (e := 70) (cells := bkC b.st (tc A6 b.l.length c6 b.m b.k) b.cl) rfl (build_bk (bkC_len tc_len)) (by rw [bkC_len tc_len]) (by decide) rfl ?_; intro gb; refine sl_app rfl pick_ rfl (Vw.of_own (A := some ⟨gb, 0, none⟩) (c := 1) (e := 70) at_) (bkC_one tc_one) rfl infoBk (by decide) (by decide) rfl (by unfold maxLen; omega) (by omega) ?_; intro A2 c2
 obtain ⟨b', hb'⟩ : ∃ b' : BK, b' = ⟨b.st, A6, c6, b.l, b.m, b.k, b.cl, b.bn⟩ := ⟨_, rfl⟩
 rw [show rows BK.cells q ++ bkC b.st (tc A6 b.l.length c6 b.m b.k) b.cl = rows BK.cells (q ++ [b']) by rw [rows_app, rows_one, hb']; rfl, show q.length + 1 = (q ++ [b']).length by simp]; refine go_ ?_; refine se_subK (L' := BM.fa b' :: bS q :: own 36 1 (some ⟨gz, 0, none⟩) n c (nums .u64 zs) :: own 70 20 A2 (q ++ [b']).length c2 (rows BK.cells (q ++ [b'])) :: K) (by rw [hb']; exact sub_) ?_; refine se_ent (ks_new (M := BM)) ?_; rw [show ((q.length : Int) + 1) = (((q ++ [b']).length : Nat) : Int) by simp]; exact se_round (q ++ [b'], A2, c2) has_ sub_ ⟨by dsimp only; rw [List.length_append, List.length_singleton]; omega, by dsimp only; rw [List.length_append, List.length_singleton, htk, List.map_append, hqs, hb']; rfl, by dsimp only; rw [List.length_append, List.length_singleton, htk, List.map_append, List.map_append, hqc, hb']; congr 1; show [some (BK.core b)] = [(bfind fs b.st).map BK.core]; rw [bfind_eq hks' hb]; rfl⟩ (by dsimp only; rw [List.length_append, List.length_singleton]; omega)
end
end
section
open Go.RowKit Go.MapKept
attribute [local irreducible] Go.Calls Go.Exit.then Go.Exit.inBlock Go.bodyPost Go.Code.wp Go.wpList takeL recordL hashL recL allL decR
section
namespace pSkt
theorem nthx_ (h : φ := by first | rfl | exact rpC_n16 | exact rpC_n17 | exact rpC_n18 | exact stC9_n9) : φ := h
theorem midx_ (h : φ := by first | exact rpC_id | exact stC9_mid | exact stC9_ci | exact Mid.all) : φ := h
theorem szx_ (h : φ := by ((try simp only [rpC_len, bkC_len tc_len, tc_len, bytes_length, Id.len, Seen.len]); (first | done | rfl); first | done | fail)) : φ := h
theorem onex_ (h : φ := by first | exact one_bytes _ | exact rpC_one rfl rfl | exact Seen.one _ | exact bkC_one tc_one | exact tc_one | exact Rl.one _) : φ := h
theorem setx_ (h : φ := by first | exact rpC_set16 | exact rpC_set17 | exact rpC_set18) : φ := h
end pSkt
open pSkt
def rpZ : List Value := rpC id0 0 (.slice none 0 0) (.slice none 0 0)
end
section
namespace pSku
theorem nthx_ (h : φ := by first | rfl | exact rpC_n16 | exact rpC_n17 | exact rpC_n18 | exact stC9_n9) : φ := h
theorem midx_ (h : φ := by first | exact rpC_id | exact stC9_mid | exact stC9_ci | exact Mid.all) : φ := h
theorem szx_ (h : φ := by ((try simp only [Wt.cells, rpC_len, bkC_len tc_len, tc_len, bytes_length, Id.len, Seen.len]); (first | done | rfl); first | done | fail)) : φ := h
theorem onex_ (h : φ := by first | exact one_bytes _ | exact rpC_one rfl rfl | exact Seen.one _ | exact bkC_one tc_one | exact tc_one | exact Rl.one _) : φ := h
theorem setx_ (h : φ := by first | exact rpC_set16 | exact rpC_set17 | exact rpC_set18) : φ := h
end pSku
open pSku
theorem wt_p {L : List Fa} {ws : List Wt} {w : Wt} (h : At (wS ws) L) (hw : w ∈ ws) : Vw L (fun W => Reads W 1 w.pA w.p.length (bytes w.p)) := fun W hW => by
 have h1 : (star [u8o w.pA w.pc w.p, u8o w.sA w.sc w.s]).P W := ks_get (M := WM) h hw W hW
 unfold star at h1
 exact Reads.of_own (own_PK (Sep.mem h1 (f := u8o w.pA w.pc w.p) (by simp)))
theorem wt_s {L : List Fa} {ws : List Wt} {w : Wt} (h : At (wS ws) L) (hw : w ∈ ws) : Vw L (fun W => Reads W 1 w.sA w.s.length (bytes w.s)) := fun W hW => by
 have h1 : (star [u8o w.pA w.pc w.p, u8o w.sA w.sc w.s]).P W := ks_get (M := WM) h hw W hW
 unfold star at h1
 exact Reads.of_own (own_PK (Sep.mem h1 (f := u8o w.sA w.sc w.s) (by simp)))
theorem sLife_ok {K : List Fa} {g gd n : Nat} {t : Ta} {r : Rl} {lim : Int} {q : StM} {s : ByteArray} (hj : At (jC q.gj gd s n) K) :
  Fn Tryz.prog 19 #[.pointer (some ⟨g, 0, none⟩)] (sF g t r lim q K) (Ret (fun _ : Unit => True) (fun _ => .tuple #[.int .u64 q.life, .int .i64 n]) (fun _ => sF g t r lim q K)) := by
 refine fe_ Tryz.func19 Tryz.ntmps19 [(0, .pointer (some ⟨g, 0, none⟩))] ?_; refine go_ ?_; refine dr_ [sB g t q.gj q.gi q.gb q.mw q.ms q.life] 11 ?_; refine y4_ 0 1 2 3 ?_; refine y4_ 4 5 6 7 ?_; refine w1_ 8 ?_; refine slc_ rfl rfl Sub.refl (cells_Jc (gj := q.gj) (g := gd) (n := n) (s := s) at_) ?_; rintro _ -; refine vy_ 9 ?_; refine wy_ 10 ?_; refine wx_ ?_; refine go_ ?_; exact r2_ ()
theorem e1_Sku (h : φ := by (refine vy_ 6 ?_; refine w1_ 5 ?_; refine slc_ rfl rfl Sub.refl (clone_ok (wt_s (ws := q.ws) at_ hx) (by omega)) ?_; rintro ⟨A2, c2⟩ -; refine v1_ 7 ?_; refine sto_ ?_; refine vy_ 8 ?_; refine w1_ 9 ?_; refine sto_ ?_; refine vx_ ?_; exact se_mid ((A1, c1), (A2, c2)) has_ sub_ trivial)) : φ := h
theorem sWaits_yes {K : List Fa} {g : Nat} {t : Ta} {r : Rl} {lim : Int} {q : StM} {x : Wt} (hx : x ∈ q.ws) (hp : x.p.length ≤ 1000000) (hs : x.s.length ≤ 1000000) :
  Fn Tryz.prog 17 #[.pointer (some ⟨g, 0, none⟩), x.id.v] (sF g t r lim q K)
   (Ret (fun _ : (Option Addr × Nat) × (Option Addr × Nat) => True) (fun z => .tuple #[.agg (rpC x.id x.t (.slice z.1.1 x.p.length z.1.2) (.slice z.2.1 x.s.length z.2.2)).toArray, .bool true]) (fun z => u8o z.1.1 z.1.2 x.p :: u8o z.2.1 z.2.2 x.s :: sF g t r lim q K)) := by
 refine fe_ Tryz.func17 Tryz.ntmps17 [(0, .pointer (some ⟨g, 0, none⟩)), (1, x.id.v)] ?_
 have hg : MGet (q.ws.map WM.ent) x.id.v (.agg x.cells.toArray) := kget (M := WM) hx
 have hk := x.id.klaw
 have hcl : x.cells.length = 19 := rpC_len
 refine go_ ?_; refine bx_ ?_; intro g3; refine al_ ?_; intro g4; refine go_ ?_; refine sc_join (α := Nat) (fun g6 => [(4, .pointer (some ⟨g4, 0, none⟩)), (6, .pointer (some ⟨g6, 0, none⟩)), (7, .bool true)]) (fun g6 => blk g6 49 x.cells :: blk g4 49 rpZ :: sF g t r lim q K) (fun _ => True) ?_ ?_
 ·refine dr_ [sB g t q.gj q.gi q.gb q.mw q.ms q.life, blk g3 47 (bytes x.id.l), wM q.mw q.ws q.cw] 12 ?_; refine y4_ 0 1 2 3 ?_; refine wy_ 4 ?_; refine w2_ 5 9 ?_ ?_
  ·repeat refine su_ ?_
   refine vy_ 6 ?_; refine y2_ 7 8 ?_; refine w1_ 9 ?_; refine al_ ?_; intro g6; refine v1_ 10 ?_; refine sto_ ?_; refine vy_ 11 ?_; refine wx_ ?_; exact se_mid g6 has_ sub_ trivial
  ·refine al_ ?_; intro g6; refine v1_ 5 ?_
   repeat refine su_ ?_
   refine vy_ 6 ?_; refine y2_ 7 8 ?_; refine w1_ 10 ?_; refine sto_ ?_; refine vy_ 11 ?_; refine wx_ ?_; exact se_mid g6 has_ sub_ trivial
 rintro g6 -
 unfold Wt.cells
 refine go_ ?_
 refine sc_join (α := (Option Addr × Nat) × (Option Addr × Nat)) (fun _ => [(4, .pointer (some ⟨g4, 0, none⟩)), (6, .pointer (some ⟨g6, 0, none⟩)), (7, .bool true)])
  (fun z => blk g6 49 (rpC x.id x.t (.slice z.1.1 x.p.length z.1.2) (.slice z.2.1 x.s.length z.2.2)) :: u8o z.1.1 z.1.2 x.p :: u8o z.2.1 z.2.2 x.s :: blk g4 49 rpZ :: sF g t r lim q K) (fun _ => True) ?_ ?_
 ·refine dr_ [] 10 ?_; refine y2_ 0 3 ?_; refine w2_ 1 4 ?_ ?_
  ·repeat refine su_ ?_
   refine v2_ 2 4 ?_ ?_
   ·refine slc_ rfl rfl Sub.refl (clone_ok (wt_p (ws := q.ws) at_ hx) (by omega)) ?_; rintro ⟨A1, c1⟩ -; refine v1_ 4 ?_
    repeat refine su_ ?_
    exact e1_Sku
   ·repeat refine su_ ?_
    refine v1_ 2 ?_; refine slc_ rfl rfl Sub.refl (clone_ok (wt_p (ws := q.ws) at_ hx) (by omega)) ?_; rintro ⟨A1, c1⟩ -; exact e1_Sku
  ·repeat refine su_ ?_
   refine v1_ 1 ?_
   repeat refine su_ ?_
   refine v1_ 2 ?_; refine slc_ rfl rfl Sub.refl (clone_ok (wt_p (ws := q.ws) at_ hx) (by omega)) ?_; rintro ⟨A1, c1⟩ -; exact e1_Sku
 rintro ⟨⟨A1, c1⟩, ⟨A2, c2⟩⟩ -; dsimp only; refine go_ ?_; exact se_ret_ct ((A1, c1), (A2, c2)) trivial rfl rfl at_ rfl rfl (by rw [rpC_len]; rfl) rfl rfl sub_
end
section
namespace pSkx
theorem nthx_ (h : φ := by first | rfl | exact rpC_n16 | exact rpC_n17 | exact rpC_n18 | exact stC9_n9) : φ := h
theorem midx_ (h : φ := by first | exact rpC_id | exact stC9_mid | exact stC9_ci | exact Mid.all) : φ := h
theorem szx_ (h : φ := by ((try simp only [Wt.cells, rpC_len, bytes_length, Id.len, Seen.len]); (first | done | rfl); first | done | fail)) : φ := h
theorem onex_ (h : φ := by first | exact one_bytes _ | exact rpC_one rfl rfl | exact Seen.one _) : φ := h
end pSkx
open pSkx
theorem sSeen_ok {K : List Fa} {g : Nat} {t : Ta} {r : Rl} {lim : Int} {q : StM} {id : Id} (hs : Srt q.ss) (hn : q.ss.length ≤ 1000000) :
  Fn Tryz.prog 15 #[.pointer (some ⟨g, 0, none⟩), id.v] (sF g t r lim q K) (Ret (fun _ : Unit => True) (fun _ => .tuple #[(gotI q.ss id).v, .bool (hasI q.ss id)]) (fun _ => sF g t r lim q K)) := by
 refine fe_ Tryz.func15 Tryz.ntmps15 [(0, .pointer (some ⟨g, 0, none⟩)), (1, id.v)] ?_; refine go_ ?_; refine bx_ ?_; intro g3; refine al_ ?_; intro g4; refine go_ ?_; refine dr_ [sB g t q.gj q.gi q.gb q.mw q.ms q.life, blk g3 47 (bytes id.l)] 10 ?_; refine y4_ 0 1 2 3 ?_; refine wy_ 4 ?_; refine w1_ 5 ?_; refine slc_ rfl rfl (by exact Sub.cons pick_ (Sub.cons pick_ Sub.refl)) (get_ok (x := q.gi) (A := q.iA) (c := q.ic) (lim := lim) (ss := q.ss) id hs hn) ?_; rintro _ -; refine vy_ 6 ?_; refine wy_ 7 ?_; refine w1_ 8 ?_; refine sl_store_whole (cl := (gotI q.ss id).cells) rfl pick_ rfl (by rw [Seen.len]; rfl) (by rw [Seen.len]; rfl) (Seen.one _) ?_; refine vy_ 9 ?_; refine wx_ ?_; refine go_ ?_; exact se_ret_ct () trivial rfl rfl at_ rfl rfl sz_ rfl rfl sub_
end
attribute [local irreducible] gotB gotF
section
namespace pUf
theorem nthx_ (h : φ := by first | rfl | exact rpC_n16 | exact rpC_n17 | exact rpC_n18 | exact stC9_n9 | exact Seen.nc _ | exact Seen.nt _) : φ := h
theorem midx_ (h : φ := by first | exact rpC_id | exact stC9_ci | exact stC9_mid | exact Mid.all) : φ := h
theorem szx_ (h : φ := by ((try simp only [Wt.cells, gotB_len, rpC_len, bkC_len tc_len, tc_len, bytes_length, Id.len, Seen.len]); (first | done | rfl); first | done | fail)) : φ := h
theorem onex_ (h : φ := by first | exact one_bytes _ | exact rpC_one rfl rfl | exact Seen.one _ | exact gotB_one | exact bkC_one tc_one | exact tc_one | exact Rl.one _) : φ := h
theorem setx_ (h : φ := by first | exact rpC_set16 | exact rpC_set17 | exact rpC_set18) : φ := h
end pUf
open pUf
theorem sd_v {L : List Fa} {sd : List Sd} {x : Sd} (h : At (dSs sd) L) (hx : x ∈ sd) : Vw L (fun W => Reads W 1 x.A x.l.length (bytes x.l)) := fun W hW => by
 have h1 : (u8o x.A x.c x.l).P W := ks_get (M := SDM) h hx W hW
 exact Reads.of_own (own_PK h1)
theorem sSaid_yes {K : List Fa} {g : Nat} {t : Ta} {r : Rl} {lim : Int} {q : StM} {x : Sd} (hx : x ∈ q.sd) (hl : x.l.length ≤ 1000000) :
  Fn Tryz.prog 16 #[.pointer (some ⟨g, 0, none⟩), x.id.v] (sF g t r lim q K) (Ret (fun _ : Option Addr × Nat => True) (fun z => .tuple #[.slice z.1 x.l.length z.2, .bool true]) (fun z => u8o z.1 z.2 x.l :: sF g t r lim q K)) := by
 refine fe_ Tryz.func16 Tryz.ntmps16 [(0, .pointer (some ⟨g, 0, none⟩)), (1, x.id.v)] ?_
 have hg : MGet (q.sd.map SDM.ent) x.id.v (.slice x.A x.l.length x.c) := kget (M := SDM) hx
 have hk := x.id.klaw
 refine go_ ?_; refine bx_ ?_; intro g3; refine go_ ?_
 ((refine sq_region (by kernel_rfl) (by kernel_rfl) ?_; (repeat refine rq_ ?_); refine sq_end ?_))
 refine go_ ?_; refine slc_ rfl rfl Sub.refl (clone_ok (sd_v (sd := q.sd) at_ hx) (by omega)) ?_; rintro ⟨A1, c1⟩ -; dsimp only; refine go_ ?_; exact r2_ (A1, c1)
theorem sSaid_no {K : List Fa} {g : Nat} {t : Ta} {r : Rl} {lim : Int} {q : StM} {id : Id} (hx : ∀ s ∈ q.sd, s.id ≠ id) :
  Fn Tryz.prog 16 #[.pointer (some ⟨g, 0, none⟩), id.v] (sF g t r lim q K) (Ret (fun _ : Option Addr × Nat => True) (fun z => .tuple #[.slice z.1 0 z.2, .bool false]) (fun z => u8o z.1 z.2 [] :: sF g t r lim q K)) := by
 refine fe_ Tryz.func16 Tryz.ntmps16 [(0, .pointer (some ⟨g, 0, none⟩)), (1, id.v)] ?_
 have hno : MNo (q.sd.map SDM.ent) id.v := kno (M := SDM) (fun s hs e => hx s hs (Id.v_inj e))
 have hk := id.klaw
 refine go_ ?_; refine bx_ ?_; intro g3; refine go_ ?_
 ((refine sq_region (by kernel_rfl) (by kernel_rfl) ?_; (repeat refine rq_ ?_); refine sq_end ?_))
 refine go_ ?_; refine slc_ rfl rfl Sub.refl (clone_ok (A := none) (bs := []) (n := 0) (c := 0) (fun w hw => ⟨rfl, fun h => absurd h (by decide)⟩) (by decide)) ?_; rintro ⟨A1, c1⟩ -; dsimp only; refine go_ ?_; exact r2_ (A1, c1)
theorem sWindow_ok {K : List Fa} {g : Nat} {t : Ta} {r : Rl} {lim s : Int} {q : StM} (hn : ∀ b ∈ q.fs, b.l.length ≤ 1000000) :
  Fn Tryz.prog 18 #[.pointer (some ⟨g, 0, none⟩), .int .u64 s] (sF g t r lim q K) (Ret (fun _ : Option Addr × Nat => True) (fun z => .tuple #[.agg (gotB (bfind q.fs s) z.1 z.2).toArray, .bool (bfind q.fs s).isSome]) (fun z => gotF (bfind q.fs s) z.1 z.2 :: sF g t r lim q K)) := by
 refine fe_ Tryz.func18 Tryz.ntmps18 [(0, .pointer (some ⟨g, 0, none⟩)), (1, .int .u64 s)] ?_; refine go_ ?_; refine al_ ?_; intro g4; refine go_ ?_; refine slc_ rfl rfl Sub.refl (bgetC_any (g := q.gb) (m := q.mb) (ck := q.cb) (t := t) (r := r) (fs := q.fs) (s := s) at_ at_ at_ hn) ?_; rintro ⟨A1, c1⟩ -; dsimp only; refine go_ ?_; exact se_ret_ct (A1, c1) trivial rfl rfl at_ rfl rfl (by rw [gotB_len]; rfl) rfl rfl sub_
theorem sAll_ok {K : List Fa} {g : Nat} {t : Ta} {r : Rl} {lim : Int} {q : StM} (hn : q.ss.length ≤ 1000000) :
  Fn Tryz.prog 25 #[.pointer (some ⟨g, 0, none⟩)] (sF g t r lim q K) (Ret (fun _ : Option Addr × Nat => True) (fun z => .slice z.1 q.ss.length z.2) (fun z => ixo z.1 z.2 q.ss :: sF g t r lim q K)) := by
 refine fe_ Tryz.func25 Tryz.ntmps25 [(0, .pointer (some ⟨g, 0, none⟩))] ?_; refine go_ ?_; refine slc_ rfl rfl (by exact Sub.cons pick_ (Sub.cons pick_ Sub.refl)) (list_ok (x := q.gi) (A := q.iA) (c := q.ic) (lim := lim) (ss := q.ss) hn) ?_; rintro ⟨A1, c1⟩ -; dsimp only; refine go_ ?_; exact r1_ (A1, c1)
theorem sBook_ok {K : List Fa} {g : Nat} {t : Ta} {r : Rl} {lim : Int} {q : StM} (hn : q.fs.length < 50) (hl : ∀ b ∈ q.fs, b.l.length ≤ 1000000) :
  Fn Tryz.prog 26 #[.pointer (some ⟨g, 0, none⟩)] (sF g t r lim q K) (Ret (fun z : Option Addr × Nat × Nat => z.2.2 = q.fs.length) (fun z => .slice z.1 z.2.2 z.2.1) (fun _ => sF g t r lim q K)) := by
 refine fe_ Tryz.func26 Tryz.ntmps26 [(0, .pointer (some ⟨g, 0, none⟩))] ?_; refine go_ ?_; refine slc_ rfl rfl Sub.refl (blist_ok (g := q.gb) (m := q.mb) (ck := q.cb) (t := t) (r := r) (fs := q.fs) at_ at_ at_ hn hl) ?_; rintro ⟨A1, c1, bs⟩ ⟨hp, -⟩
 have hbl := hp.length_eq
 rw [List.length_map, List.length_map] at hbl
 dsimp only; refine go_ ?_; exact se_ret1 (A1, c1, bs.length) hbl rfl rfl sub_
theorem waitf_ok (L : List Fa) (s : Seen) (_hL : Sub L []) : Fn Tryz.prog 72 ([s.v] ++ []).toArray L (Ret (fun _ : Unit => True) (fun _ => .bool (!decide (s.c = 30))) (fun _ => L)) := by
 refine fe_ Tryz.func72 Tryz.ntmps72 [(0, s.v)] ?_; refine go_ ?_; refine bx_ ?_; intro gs
 by_cases h : s.c = 30
 ·rw [decide_eq_true h]; refine go_ ?_; exact r1_ ()
 ·rw [decide_eq_false h]; refine go_ ?_; exact r1_ ()
theorem sWaiting_ok {K : List Fa} {g : Nat} {t : Ta} {r : Rl} {lim a b : Int} {q : StM} (hs : Srt q.ss) (hn : q.ss.length ≤ 1000000) :
  Fn Tryz.prog 24 #[.pointer (some ⟨g, 0, none⟩), .int .u64 a, .int .u64 b] (sF g t r lim q K) (Ret (fun _ : Option Addr × Nat => True) (fun z => .slice z.1 ((withL q.ss a b).filter fun s => decide (s.c = 30)).length z.2) (fun z => ixo z.1 z.2 ((withL q.ss a b).filter fun s => decide (s.c = 30)) :: sF g t r lim q K)) := by
 refine fe_ Tryz.func24 Tryz.ntmps24 [(0, .pointer (some ⟨g, 0, none⟩)), (1, .int .u64 a), (2, .int .u64 b)] ?_
 have hwl : (withL q.ss a b).length ≤ q.ss.length := by
  unfold withL
  rw [(sortT_inv _ _ rfl).1.length_eq]; exact List.length_filter_le ..
 refine go_ ?_; refine slc_ rfl rfl (by exact Sub.cons pick_ (Sub.cons pick_ Sub.refl)) (within_ok (x := q.gi) (A := q.iA) (c := q.ic) (lim := lim) (ss := q.ss) a b hs hn) ?_; rintro ⟨A1, c1⟩ -; dsimp only; refine go_ ?_; refine slc_ rfl rfl Sub.refl (delete_ok (C := []) (p := fun s => !decide (s.c = 30)) (fd := 72) (caps := []) (A := A1) (c := c1) (ss := withL q.ss a b) (by kernel_rfl) (fun L s hL => waitf_ok L s hL) Sub.nil (by omega)) ?_; rintro _ -
 simp only [Bool.not_not]
 refine go_ ?_; exact r1_ (A1, c1)
theorem sRules_ok {K : List Fa} {g : Nat} {t : Ta} {r : Rl} {lim : Int} {q : StM} :
  Fn Tryz.prog 27 #[.pointer (some ⟨g, 0, none⟩)] (sF g t r lim q K) (Ret (fun _ : Unit => True) (fun _ => .agg r.c.toArray) (fun _ => sF g t r lim q K)) := by
 refine fe_ Tryz.func27 Tryz.ntmps27 [(0, .pointer (some ⟨g, 0, none⟩))] ?_; refine go_ ?_; refine al_ ?_; intro g2; refine go_ ?_; refine slc_ rfl rfl sub_ (rules_ok (g := q.gb) (m := q.mb) (t := t) (r := r) at_) ?_; rintro _ -; refine go_ ?_; exact se_ret_c () trivial rfl rfl at_ rfl rfl rfl rfl sub_
end
end
end Go.Proofs.YtocaabnbmcpjmaaGreat
