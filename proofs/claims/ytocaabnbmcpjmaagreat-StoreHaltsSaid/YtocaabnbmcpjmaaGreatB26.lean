/- Several texts of one claim, one behind the other (Gj, Sqe, Os, Ob, Sqf). -/
import Derived.Test.YtocaabnbmcpjmaaGreatB22
import Derived.Test.YtocaabnbmcpjmaaGreatB25
import Derived.Test.YtocaabnbmcpjmaaGreatB05
import Derived.Test.YtocaabnbmcpjmaaGreatB01
import Derived.Test.YtocaabnbmcpjmaaGreatB15
set_option linter.unusedVariables false
set_option linter.unusedSimpArgs false
/- The small tasks may be; chapter 19's fixed fact. -/
namespace Go.Proofs.YtocaabnbmcpjmaaGreat
open Go.RowKit Go.MapKept
attribute [local irreducible] Go.Calls Go.Exit.then Go.Exit.inBlock Go.bodyPost Go.Code.wp Go.wpList
attribute [local irreducible] hashL ofId
def Sk.ta (s : Sk) : Ta := ⟨1 + s.k % 5, 1 + s.f % 2, sBt (1 + s.k % 5) s.b, sLn (1 + s.k % 5) s.l, sWt (1 + s.k % 5) s.l s.w, sCh (1 + s.k % 5) s.c, 1 + s.p % 3, tagS (s.t % 3)⟩
theorem Sk.ta_c (s : Sk) : s.ta.c = s.tc := rfl
theorem tagS_le {m : Int} (h : m = 0 ∨ m = 1 ∨ m = 2) : ((tagS m).size : Int) ≤ 32 := by
  rcases h with rfl | rfl | rfl <;> decide
theorem small_ci {kd fl b l w c : Int} (hk : 1 ≤ kd ∧ kd ≤ 5) (hf : fl = 1 ∨ fl = 2) (hb : 0 ≤ b) (hl : 0 ≤ l) (hw : 0 ≤ w) (hc : 0 ≤ c) : ciErr kd fl (sBt kd b) (sLn kd l) (sWt kd l w) (sCh kd c) = 0 := by
  have h1 : 1 ≤ 1 + b % 4 ∧ 1 + b % 4 ≤ 4 := by omega
  have h2 : 1 ≤ 1 + (1 + l % 5) % 3 ∧ 1 + (1 + l % 5) % 3 ≤ 3 := by omega
  have h3 : 1 ≤ 1 + l % 5 ∧ 1 + l % 5 ≤ 5 := by omega
  have h4 : 1 ≤ 1 + w % (1 + l % 5) ∧ 1 + w % (1 + l % 5) ≤ 1 + l % 5 := ⟨by have := Int.emod_nonneg w (show 1 + l % 5 ≠ 0 by omega); omega, by have := Int.emod_lt_of_pos w (show 0 < 1 + l % 5 by omega); omega⟩
  have h5 : 1 ≤ 1 + c % 4 ∧ 1 + c % 4 ≤ 4 := by omega
  have hin : ∀ {x ch : Int}, 0 ≤ x → x ≤ 100 → 1 ≤ ch → ch ≤ 4 → ¬ 511 < (if 0 < ch then (x + ch - 1) / ch else 0) := by
    intro x ch a1 a2 a3 a4
    rw [if_pos (by omega)]
    have := Int.ediv_le_self ch (show 0 ≤ x + ch - 1 by omega)
    omega
  unfold ciErr
  rw [if_neg (by simp [hf]), if_neg (by omega)]
  rcases (show kd = 1 ∨ kd = 2 ∨ kd = 3 ∨ kd = 4 ∨ kd = 5 by omega) with rfl | rfl | rfl | rfl | rfl
  · simp [sBt, sLn, sWt, sCh, ciIn, wi, uB, uL, uW, callsN]
  · have e : ciIn 2 (1 + b % 4) 0 0 0 = true := by simp [ciIn, wi, uB, uL, uW]; omega
    simp only [sBt, sLn, sWt, sCh]
    simp [e, callsN]
    omega
  · have hm := mul_le (a := 1 + (1 + l % 5) % 3) (b := 1 + b % 4) (m := 3) (n := 4) (by omega) h2.2 (by omega) h1.2
    have e : ciIn 3 (1 + b % 4) (1 + (1 + l % 5) % 3) 0 (1 + c % 4) = true := by simp [ciIn, wi, uB, uL, uW]; omega
    have := hin (x := (1 + (1 + l % 5) % 3) * (1 + b % 4)) hm.1 (by omega) h5.1 h5.2
    rw [show sBt 3 b = 1 + b % 4 by simp [sBt], show sLn 3 l = 1 + (1 + l % 5) % 3 by simp [sLn], show sWt 3 l w = 0 by simp [sWt], show sCh 3 c = 1 + c % 4 by simp [sCh], if_neg (by simp [e]), show callsN 3 (1 + b % 4) (1 + (1 + l % 5) % 3) 0 (1 + c % 4) = if 0 < 1 + c % 4 then ((1 + (1 + l % 5) % 3) * (1 + b % 4) + (1 + c % 4) - 1) / (1 + c % 4) else 0 by simp [callsN, inN], if_neg this]
  · have e : ciIn 4 0 (1 + l % 5) 0 (1 + c % 4) = true := by simp [ciIn, wi, uB, uL, uW]; omega
    have := hin (x := (1 + l % 5)) (by omega) (by omega) h5.1 h5.2
    rw [show sBt 4 b = 0 by simp [sBt], show sLn 4 l = 1 + l % 5 by simp [sLn], show sWt 4 l w = 0 by simp [sWt], show sCh 4 c = 1 + c % 4 by simp [sCh], if_neg (by simp [e]), show callsN 4 0 (1 + l % 5) 0 (1 + c % 4) = if 0 < 1 + c % 4 then ((1 + l % 5) + (1 + c % 4) - 1) / (1 + c % 4) else 0 by simp [callsN, inN], if_neg this]
  · have hbl := bl_le (wt := 1 + w % (1 + l % 5)) (by omega) (by omega)
    rw [hbl.2] at hbl
    have e : ciIn 5 0 (1 + l % 5) (1 + w % (1 + l % 5)) (1 + c % 4) = true := by simp [ciIn, wi, uB, uL, uW]; omega
    have := hin (x := (1 + l % 5 + Lib.bitLen (1 + w % (1 + l % 5)).toNat)) (by omega) (by omega) h5.1 h5.2
    rw [show sBt 5 b = 0 by simp [sBt], show sLn 5 l = 1 + l % 5 by simp [sLn], show sWt 5 l w = 1 + w % (1 + l % 5) by simp [sWt], show sCh 5 c = 1 + c % 4 by simp [sCh], if_neg (by simp [e]), show callsN 5 0 (1 + l % 5) (1 + w % (1 + l % 5)) (1 + c % 4) = if 0 < 1 + c % 4 then ((1 + l % 5 + Lib.bitLen (1 + w % (1 + l % 5)).toNat) + (1 + c % 4) - 1) / (1 + c % 4) else 0 by simp [callsN, inN], if_neg this]
theorem Sk.ta_ok (s : Sk) : s.ta.err = 0 := by
  have h1 := s.hk
  have h2 := s.hf
  have h3 := s.hp
  have h4 := s.ht
  have h := small_ci (kd := 1 + s.k % 5) (fl := 1 + s.f % 2) (b := s.b) (l := s.l) (w := s.w) (c := s.c) (by omega) (by omega) s.hb.1 s.hl.1 s.hw.1 s.hc.1
  have ht := tagS_le (m := s.t % 3) (by omega)
  show tErr (1 + s.k % 5) (1 + s.f % 2) (sBt (1 + s.k % 5) s.b) (sLn (1 + s.k % 5) s.l) (sWt (1 + s.k % 5) s.l s.w) (sCh (1 + s.k % 5) s.c) (1 + s.p % 3) (tagS (s.t % 3)) = 0
  unfold tErr
  rw [if_neg (by simp [h]), if_neg (by omega)]
end Go.Proofs.YtocaabnbmcpjmaaGreat
/- StoreHalts: the walk. -/
namespace Go.Proofs.YtocaabnbmcpjmaaGreat
open Go.RowKit Go.MapKept
attribute [local irreducible] Go.Calls Go.Exit.then Go.Exit.inBlock Go.bodyPost Go.Code.wp Go.wpList takeL recordL hashL recL allL decR
abbrev rlB : Rl := ⟨10, 1, 200⟩
theorem idJ_ok {b : Int} {j : Nat} (hb : 0 ≤ b ∧ b ≤ 255) (hj : j < 256) : (b :: (j : Int) :: List.replicate 14 0).length = 16 ∧ IsBytes (b :: (j : Int) :: List.replicate 14 0) := by
  refine ⟨rfl, fun x hx => ?_⟩
  rcases List.mem_cons.1 hx with e | e
  · omega
  · rcases List.mem_cons.1 e with e | e
    · omega
    · rw [List.eq_of_mem_replicate e]; omega
def idJ (b : Int) (j : Nat) (hb : 0 ≤ b ∧ b ≤ 255) (hj : j < 256) : Id := ⟨b :: (j : Int) :: List.replicate 14 0, (idJ_ok hb hj).1, (idJ_ok hb hj).2⟩
/-- A store some reports were taken up in. -/
structure HS where
  j : Nat
  q : StM
  ls : List (List Int)
  f : DF
  ck : Nat
structure HI (gj : Nat) (z : HS) : Prop where
  si : SI gj z.q
  n : z.q.ss.length = z.j
  sec : ∀ s ∈ z.q.ss, ∃ m : Nat, m < z.j ∧ s.id.l[1]? = some (m : Int)
  one : OneC z.ls
  ll : z.ls.length = z.j + 1
  fl : ∃ σ, JFl z.ls σ z.f
theorem HI.no {gj : Nat} {z : HS} (h : HI gj z) {b : Int} {hb : 0 ≤ b ∧ b ≤ 255} {hj : z.j < 256} : hasI z.q.ss (idJ b z.j hb hj) = false := by
  refine hasI_no fun k s hs he => ?_
  obtain ⟨m, h1, h2⟩ := h.sec s (List.mem_of_getElem? hs)
  rw [he] at h2
  have h3 : (idJ b z.j hb hj).l[1]? = some (z.j : Int) := rfl
  rw [h3] at h2
  injection h2 with h2
  omega
theorem fitsB {x : Int} (h : x ≤ 1099511627776) : fitsE rlB [] x = 0 := by
  unfold fitsE
  rw [if_neg (by omega)]
  rfl
theorem HI.acc {gj : Nat} {z : HS} (h : HI gj z) {b : Int} {hb : 0 ≤ b ∧ b ≤ 255} {hj : z.j < 256} (h20 : z.j < 20) : accE rlB 200 z.q (idJ b z.j hb hj) z.j 0 0 = 0 := by
  have h1 := h.n
  unfold accE
  rw [h.no, h.si.fs, if_neg (by decide), if_neg (by decide), if_neg (by omega)]
  exact fitsB (by omega)
theorem insAt_mem {ss : List Seen} {s x : Seen} (h : x ∈ insAt ss s) : x ∈ ss ∨ x = s := by
  unfold insAt at h
  rcases List.mem_append.1 h with e | e
  · exact .inl (List.mem_of_mem_take e)
  · rcases List.mem_cons.1 e with e | e
    · exact .inr e
    · exact .inl (List.mem_of_mem_drop e)
theorem rcB_ok {id : Id} {t : Int} (ht : 0 ≤ t) : (1 ≤ (1 :: rcAcc id t [] []).length ∧ (1 :: rcAcc id t [] []).length ≤ 48) ∧ IsBytes (1 :: rcAcc id t [] []) ∧ ((1 :: rcAcc id t [] [])[0]? = some 1 ∨ (1 :: rcAcc id t [] [])[0]? = some 5) :=
  ⟨by rw [rcAcc_len]; decide, rcAcc_bytes (fun _ h => by cases h) (fun _ h => by cases h), .inl rfl⟩
theorem HI.next {gj : Nat} {z : HS} (h : HI gj z) {b : Int} {hb : 0 ≤ b ∧ b ≤ 255} {hj : z.j < 256} (h20 : z.j < 20) {ht : 0 ≤ (z.j : Int) ∧ (z.j : Int) ≤ 18446744073709551615} {A1 : Option Addr} {c1 : Nat} {w : Wt} (hw : w.id = idJ b z.j hb hj) {f2 : DF} {σ ck2 : Nat} (hf : JFl (z.ls ++ [1 :: rcAcc (idJ b z.j hb hj) z.j [] []]) σ f2) :
    HI gj ⟨z.j + 1, z.q.acc 200 ⟨idJ b z.j hb hj, z.j, 30, ht, by decide⟩ A1 c1 w, z.ls ++ [1 :: rcAcc (idJ b z.j hb hj) z.j [] []], f2, ck2⟩ := by
  have ha := accE_add ht (h.acc (b := b) (hb := hb) (hj := hj) h20)
  have hss : (z.q.acc 200 ⟨idJ b z.j hb hj, z.j, 30, ht, by decide⟩ A1 c1 w).ss = insAt z.q.ss ⟨idJ b z.j hb hj, z.j, 30, ht, by decide⟩ := by
    show (addI 200 z.q.ss _).2 = _
    rw [ha]
  refine ⟨h.si.acc (by decide) hw (by rw [ha]), ?_, ?_, ?_, ?_, ⟨σ, hf⟩⟩
  · show (z.q.acc 200 _ A1 c1 w).ss.length = z.j + 1
    rw [hss, insAt_len, h.n]
  · show ∀ s ∈ (z.q.acc 200 _ A1 c1 w).ss, _
    rw [hss]
    intro s hs
    rcases insAt_mem hs with e | e
    · obtain ⟨m, h1, h2⟩ := h.sec s e
      exact ⟨m, by show m < z.j + 1; omega, h2⟩
    · subst e
      exact ⟨z.j, by show z.j < z.j + 1; omega, rfl⟩
  · intro x hx
    rcases List.mem_append.1 hx with e | e
    · exact h.one x e
    · rw [List.mem_singleton] at e
      subst e
      exact rcB_ok ht.1
  · show (z.ls ++ _).length = z.j + 1 + 1
    rw [List.length_append, h.ll]
    rfl
theorem hopF {gd md : Nat} {K0 : List Fa} {t : Ta} (hr : rErr rlB t = 0) : Fn Tryz.prog 9 #[.pointer (some ⟨gd, 0, none⟩), .agg t.c.toArray, .agg rlB.c.toArray, .int .i64 200] (dB gd md 1048576 :: dM md [] 0 :: dS [] :: K0)
    (Ret (orP (fun p => p.xs = [] ∧ p.fs = [] ∧ p.ck = 0) (fun _ => False) iN []) orV (orH t rlB 200 1048576 gd md [] K0)) :=
  open_ok (σ := 0) (ls := []) (Kp := KpN) (limit := 200) hr (by decide) (by decide) (by decide) jopen_new
    (fun p hp => ⟨.inl ⟨rfl, hp.2.1, hp.2.2, rfl⟩, by rw [hp.1]; rfl, fun h => absurd hp.1 h⟩)
    (fun p g q _ h1 h2 h3 h4 h5 h6 => ⟨h1, h2, h3, h4, h5, h6⟩)
    (fun p g j x q K' hp hx => by rw [hp.1] at hx; cases hx)
    (fun p g q h => ⟨h.1, by rw [h.2.2.2.2.2]; decide, by rw [h.2.2.2.2.2]; decide⟩)
end Go.Proofs.YtocaabnbmcpjmaaGreat
/- Structs as they come in: ids, reports. -/
namespace Go.Proofs.YtocaabnbmcpjmaaGreat
open Go.RowKit Go.ChangeShapes Go.WideShapes Go.Deep
section
variable {H : Type} {enc : TypeId × Value → H} {w : World} {base : Nat} {spare : Nat → Bool} {held : Bool} {fuel : Nat} {cs : List Value} {x : DataW H × List MemPlace}
end
end Go.Proofs.YtocaabnbmcpjmaaGreat
/- Rules, small rules, tasks, small tasks, ids as they come in. (The openers are printed by wip/tools/gen_open.py.) -/
namespace Go.Proofs.YtocaabnbmcpjmaaGreat
open Go.RowKit Go.ChangeShapes Go.WideShapes Go.Deep
section
variable {H : Type} {enc : TypeId × Value → H} {w : World} {base : Nat} {spare : Nat → Bool} {held : Bool} {fuel : Nat} {cs : List Value} {x : DataW H × List MemPlace}
theorem open_sm10 (h : DataW.trod enc Tryz.prog w base spare held fuel 23 cs = some x) : ∃ (z0 : Int) (z1 : Int) (z2 : Int) (z3 : Int) (z4 : Int) (z5 : Int), cs = [Value.int .u8 z0] ++ ([Value.int .u8 z1] ++ ([Value.int .u8 z2] ++ ([Value.int .u8 z3] ++ ([Value.int .u8 z4] ++ ([Value.int .u8 z5] ++ []))))) ∧ (0 ≤ z0 ∧ z0 ≤ 255) ∧ (0 ≤ z1 ∧ z1 ≤ 255) ∧ (0 ≤ z2 ∧ z2 ≤ 255) ∧ (0 ≤ z3 ∧ z3 ≤ 255) ∧ (0 ≤ z4 ∧ z4 ≤ 255) ∧ (0 ≤ z5 ∧ z5 ≤ 255) := by
  obtain ⟨hl, m, hf⟩ := open_struct Tryz.underlying23 h
  have hl' : cs.length = 6 := hl.trans (by kernel_rfl)
  have n0 : Tryz.prog.cellsOf 5 = 1 := by kernel_rfl
  have n1 : Tryz.prog.cellsOf 5 = 1 := by kernel_rfl
  have n2 : Tryz.prog.cellsOf 5 = 1 := by kernel_rfl
  have n3 : Tryz.prog.cellsOf 5 = 1 := by kernel_rfl
  have n4 : Tryz.prog.cellsOf 5 = 1 := by kernel_rfl
  have n5 : Tryz.prog.cellsOf 5 = 1 := by kernel_rfl
  obtain ⟨y0, e0⟩ := hf 0 _ rfl
  have f0 : DataW.trod enc Tryz.prog w base spare held m 5 ((cs.drop 0).take (Tryz.prog.cellsOf 5)) = some y0 := e0
  rw [n0] at f0
  obtain ⟨y1, e1⟩ := hf 1 _ rfl
  have f1 : DataW.trod enc Tryz.prog w base spare held m 5 ((cs.drop 1).take (Tryz.prog.cellsOf 5)) = some y1 := e1
  rw [n1] at f1
  obtain ⟨y2, e2⟩ := hf 2 _ rfl
  have f2 : DataW.trod enc Tryz.prog w base spare held m 5 ((cs.drop 2).take (Tryz.prog.cellsOf 5)) = some y2 := e2
  rw [n2] at f2
  obtain ⟨y3, e3⟩ := hf 3 _ rfl
  have f3 : DataW.trod enc Tryz.prog w base spare held m 5 ((cs.drop 3).take (Tryz.prog.cellsOf 5)) = some y3 := e3
  rw [n3] at f3
  obtain ⟨y4, e4⟩ := hf 4 _ rfl
  have f4 : DataW.trod enc Tryz.prog w base spare held m 5 ((cs.drop 4).take (Tryz.prog.cellsOf 5)) = some y4 := e4
  rw [n4] at f4
  obtain ⟨y5, e5⟩ := hf 5 _ rfl
  have f5 : DataW.trod enc Tryz.prog w base spare held m 5 ((cs.drop 5).take (Tryz.prog.cellsOf 5)) = some y5 := e5
  rw [n5] at f5
  obtain ⟨z0, g0, _, u0⟩ := DataW.trod_int Tryz.underlying5 f0
  have b0 : 0 ≤ z0 ∧ z0 ≤ 255 := by simpa [Lit.wf, IntKind.min, IntKind.max, IntKind.signed, IntKind.bits] using u0
  obtain ⟨z1, g1, _, u1⟩ := DataW.trod_int Tryz.underlying5 f1
  have b1 : 0 ≤ z1 ∧ z1 ≤ 255 := by simpa [Lit.wf, IntKind.min, IntKind.max, IntKind.signed, IntKind.bits] using u1
  obtain ⟨z2, g2, _, u2⟩ := DataW.trod_int Tryz.underlying5 f2
  have b2 : 0 ≤ z2 ∧ z2 ≤ 255 := by simpa [Lit.wf, IntKind.min, IntKind.max, IntKind.signed, IntKind.bits] using u2
  obtain ⟨z3, g3, _, u3⟩ := DataW.trod_int Tryz.underlying5 f3
  have b3 : 0 ≤ z3 ∧ z3 ≤ 255 := by simpa [Lit.wf, IntKind.min, IntKind.max, IntKind.signed, IntKind.bits] using u3
  obtain ⟨z4, g4, _, u4⟩ := DataW.trod_int Tryz.underlying5 f4
  have b4 : 0 ≤ z4 ∧ z4 ≤ 255 := by simpa [Lit.wf, IntKind.min, IntKind.max, IntKind.signed, IntKind.bits] using u4
  obtain ⟨z5, g5, _, u5⟩ := DataW.trod_int Tryz.underlying5 f5
  have b5 : 0 ≤ z5 ∧ z5 ≤ 255 := by simpa [Lit.wf, IntKind.min, IntKind.max, IntKind.signed, IntKind.bits] using u5
  have hp : cs = (cs.drop 0).take 1 ++ ((cs.drop 1).take 1 ++ ((cs.drop 2).take 1 ++ ((cs.drop 3).take 1 ++ ((cs.drop 4).take 1 ++ ((cs.drop 5).take 1 ++ []))))) := by
    rw [← piece_end hl', ← piece 5 1 6 rfl, ← piece 4 1 5 rfl, ← piece 3 1 4 rfl, ← piece 2 1 3 rfl, ← piece 1 1 2 rfl, ← piece 0 1 1 rfl, List.drop_zero]
  rw [g0, g1, g2, g3, g4, g5] at hp
  exact ⟨z0, z1, z2, z3, z4, z5, hp, b0, b1, b2, b3, b4, b5⟩
def Sm10P (cs : List Value) : Prop := ∃ k f b l w c : Int, cs = sCells k f b l w c ∧ (0 ≤ k ∧ k ≤ 255) ∧ (0 ≤ f ∧ f ≤ 255) ∧ (0 ≤ b ∧ b ≤ 255) ∧ (0 ≤ l ∧ l ≤ 255) ∧ (0 ≤ w ∧ w ≤ 255) ∧ (0 ≤ c ∧ c ≤ 255)
theorem open_sm10c (h : DataW.trod enc Tryz.prog w base spare held fuel 23 cs = some x) : ∃ z : List Value, cs = z ∧ Sm10P z := by
  obtain ⟨k, f, b, l, w, c, h1, h2⟩ := open_sm10 h
  exact ⟨_, rfl, k, f, b, l, w, c, by rw [h1]; rfl, h2⟩
theorem open_sm13 (h : DataW.trod enc Tryz.prog w base spare held fuel 25 cs = some x) : ∃ (z0 : List Value) (z1 : Int) (z2 : Int), cs = z0 ++ ([Value.int .u8 z1] ++ ([Value.int .u8 z2] ++ [])) ∧ (Sm10P z0) ∧ (0 ≤ z1 ∧ z1 ≤ 255) ∧ (0 ≤ z2 ∧ z2 ≤ 255) := by
  obtain ⟨hl, m, hf⟩ := open_struct Tryz.underlying25 h
  have hl' : cs.length = 8 := hl.trans (by kernel_rfl)
  have n0 : Tryz.prog.cellsOf 23 = 6 := by kernel_rfl
  have n1 : Tryz.prog.cellsOf 5 = 1 := by kernel_rfl
  have n2 : Tryz.prog.cellsOf 5 = 1 := by kernel_rfl
  obtain ⟨y0, e0⟩ := hf 0 _ rfl
  have f0 : DataW.trod enc Tryz.prog w base spare held m 23 ((cs.drop 0).take (Tryz.prog.cellsOf 23)) = some y0 := e0
  rw [n0] at f0
  obtain ⟨y1, e1⟩ := hf 1 _ rfl
  have f1 : DataW.trod enc Tryz.prog w base spare held m 5 ((cs.drop 6).take (Tryz.prog.cellsOf 5)) = some y1 := e1
  rw [n1] at f1
  obtain ⟨y2, e2⟩ := hf 2 _ rfl
  have f2 : DataW.trod enc Tryz.prog w base spare held m 5 ((cs.drop 7).take (Tryz.prog.cellsOf 5)) = some y2 := e2
  rw [n2] at f2
  obtain ⟨z0, g0, b0⟩ := open_sm10c f0
  obtain ⟨z1, g1, _, u1⟩ := DataW.trod_int Tryz.underlying5 f1
  have b1 : 0 ≤ z1 ∧ z1 ≤ 255 := by simpa [Lit.wf, IntKind.min, IntKind.max, IntKind.signed, IntKind.bits] using u1
  obtain ⟨z2, g2, _, u2⟩ := DataW.trod_int Tryz.underlying5 f2
  have b2 : 0 ≤ z2 ∧ z2 ≤ 255 := by simpa [Lit.wf, IntKind.min, IntKind.max, IntKind.signed, IntKind.bits] using u2
  have hp : cs = (cs.drop 0).take 6 ++ ((cs.drop 6).take 1 ++ ((cs.drop 7).take 1 ++ [])) := by
    rw [← piece_end hl', ← piece 7 1 8 rfl, ← piece 6 1 7 rfl, ← piece 0 6 6 rfl, List.drop_zero]
  rw [g0, g1, g2] at hp
  exact ⟨z0, z1, z2, hp, b0, b1, b2⟩
def SkV (_ : World) (v : Value) : Prop := ∃ s : Sk, v = .agg s.cells.toArray
theorem open_sk_v {v : Value} (h : DataW.trod enc Tryz.prog w base spare held fuel 25 v.cells.toList = some x) (hv : ∃ cs, v = .agg cs) : SkV w v := by
  obtain ⟨cs, rfl⟩ := hv
  obtain ⟨z, p, t, h1, ⟨k, f, b, l, w, c, h2, hk, hf, hb, hl, hw, hc⟩, hp, ht⟩ := open_sm13 h
  subst h2
  have h3 : cs.toList = (Sk.cells ⟨k, f, b, l, w, c, p, t, hk, hf, hb, hl, hw, hc, hp, ht⟩) := h1
  exact ⟨_, by rw [← h3]⟩
end
end Go.Proofs.YtocaabnbmcpjmaaGreat
/- StoreHalts: the walk. -/
namespace Go.Proofs.YtocaabnbmcpjmaaGreat
open Go.RowKit Go.MapKept
attribute [local irreducible] Go.Calls Go.Exit.then Go.Exit.inBlock Go.bodyPost Go.Code.wp Go.wpList takeL recordL hashL recL allL decR
theorem nth_Sqf {φ : Prop} (h : φ := by (first | rfl | first | rfl | exact rpC_n16 | exact rpC_n17 | exact rpC_n18 | exact stC9_n9)) : φ := h
theorem mid_Sqf {φ : Prop} (h : φ := by (first | first | exact rpC_id | exact stC9_mid | exact stC9_ci | exact Mid.all | exact Mid.all | exact Mid.head)) : φ := h
theorem sz_Sqf {φ : Prop} (h : φ := by (first | rfl | ((try simp only [rpC_len, bytes_length, Id.len, Seen.len]); (first | done | rfl); first | done | fail))) : φ := h
theorem one_Sqf {φ : Prop} (h : φ := by (first | assumption | exact first | exact one_bytes _ | exact rpC_one rfl rfl | exact Ta.one _ | exact Rl.one _ | (simp only [List.mem_cons, List.not_mem_nil, or_false, forall_eq_or_imp, forall_eq]; decide) | exact one_bytes _ | (intro v hv; (repeat (rcases List.mem_cons.1 hv with rfl | hv; rfl)); cases hv))) : φ := h
theorem set_Sqf {φ : Prop} (h : φ := by (first | (fail) | ((repeat (first | exact SetAt.here | apply SetAt.there)); first | done | fail))) : φ := h
theorem cl_Sqf {φ : Prop} (h : φ := by first | rfl | exact .t | exact .f | exact .t (by omega) | exact .f (by omega) | exact .u | exact .i (by (first | exact .t (by omega) | exact .f (by omega) | exact .u | exact .i (by omega) | exact .v (by omega) | exact .b (by omega) | exact .w | rfl | omega)) | exact .v (by omega) | exact .b (by omega) | exact .q (by omega) | exact .w | exact .b (by exact at_) rfl (by exact nth_Sqf) | exact .w (by exact at_) rfl rfl (by exact sz_Sqf) | exact .s (by exact at_) (by exact mid_Sqf) rfl rfl (by exact sz_Sqf) | exact .z rfl rfl ⟨by kernel_rfl⟩ | exact .b rfl rfl ⟨by kernel_rfl⟩ | exact .a rfl rfl ⟨by kernel_rfl⟩ | exact .o rfl | exact .s | exact .n | exact .p rfl | exact .q rfl | exact .c rfl | exact .d rfl | exact .n rfl rfl (by omega) | exact .a rfl rfl (by omega) | exact .p rfl rfl (by omega) (by omega) | exact .y rfl rfl (by omega) (by omega) | exact .o (by exact at_) (by omega) rfl (by exact nth_Sqf) | exact .m (by exact at_) (by omega) (by exact mid_Sqf) rfl rfl (by exact sz_Sqf) | exact .mlen (by exact at_) rfl | exact .t (by exact at_) rfl rfl (by first | exact True.intro | rfl) (by assumption) | exact .f (by exact at_) rfl rfl (by first | exact True.intro | rfl) (by assumption) rfl | exact .t1 (by exact at_) rfl rfl (by first | exact True.intro | rfl) (by assumption) | exact .f1 (by exact at_) rfl rfl (by first | exact True.intro | rfl) (by assumption) rfl | exact .tk (by exact at_) rfl (by assumption) (by assumption) | exact .fk (by exact at_) rfl (by assumption) (by assumption) rfl | exact .tk1 (by exact at_) rfl (by assumption) (by assumption) | exact .fk1 (by exact at_) rfl (by assumption) (by assumption) rfl | exact .r rfl rfl (by omega) (by omega) (by exact nth_Sqf) rfl | exact .s rfl (by omega) (by assumption) | exact at_ | assumption | exact .r rfl rfl | exact .h rfl rfl rfl (by omega) | exact .l rfl rfl rfl (by omega) (by omega) | exact .g rfl rfl rfl rfl (by omega) (by omega) | exact .h rfl rfl (toN_ (by omega)) (by omega) | exact .l rfl rfl (toN_ (by omega)) (by omega) (by omega) | exact .g rfl rfl (toN_ (by omega)) (toN_ (by omega)) (by omega) (by omega) | exact .o (by decide) | exact .f (by decide) | exact .n (by omega) (by first | decide | (show _ ≤ ((64 : Nat) : Int); omega)) | (constructor; (repeat (first | exact .t (by omega) | exact .f (by omega) | exact .u | exact .i (by omega) | exact .v (by omega) | exact .b (by omega) | exact .w | rfl | omega)); first | done | fail) | omega | (show _ ≤ ((64 : Nat) : Int); omega)) : φ := h
theorem pv_Sqf {φ : Prop} (h : φ := by constructor; (repeat exact cl_Sqf); first | done | fail) : φ := h
theorem su_Sqf {φ ψ : Prop} (k : ψ) (h : Hide ψ → φ := by (intro k; (first | refine sl_pu (PuI.sep (by exact pv_Sqf)) rfl ?_ | refine sl_yes rfl rfl ?_ | refine sl_no rfl rfl rfl ?_ | refine sl_off rfl rfl rfl ?_ | (fail)); exact k.out)) : φ := h ⟨k⟩
theorem sto_Sqf {φ ψ : Prop} (k : ψ) (h : Hide ψ → φ := by (intro k; (first | refine sl_store rfl (by exact pick_) rfl rfl (by kernel_rfl) (by exact set_Sqf) ?_ | refine sl_store_whole rfl (by exact pick_) rfl (by exact sz_Sqf) (by exact sz_Sqf) (by exact one_Sqf) ?_); exact k.out)) : φ := h ⟨k⟩
theorem go_Sqf {φ ψ : Prop} (k : ψ) (h : Hide ψ → φ := by (intro k; (repeat (first | refine su_Sqf ?_ | refine so_ ?_ | refine sto_Sqf ?_)); exact k.out)) : φ := h ⟨k⟩
set_option maxRecDepth 100000 in
set_option maxHeartbeats 16000000 in
theorem halts_walk {K : List Fa} {s : Sk} {u : Int} {A : Option Addr} {n c : Nat} {bs : List Int} (hu : 0 ≤ u ∧ u ≤ 4294967295) (h' : n ≤ 20 → Rd K A n c bs) :
    Fn Tryz.prog 3 #[.agg s.cells.toArray, .int .u32 u, .slice A n c] K (Ret (fun _ : Unit => True) (fun _ => .bool true) (fun _ => K)) := by
  refine fn_enter Tryz.func3 rfl _ Tryz.ntmps3 (by simp) [(0, .agg s.cells.toArray), (1, .int .u32 u), (2, .slice A n c)] (args_of (by simp)) ?_
  refine go_Sqf ?_
  refine sl_box rfl rfl rfl ?_; intro g3
  refine go_Sqf ?_
  refine sl_call rfl rfl (by kernel_rfl) rfl (by exact sub_) awake21 ?_; rintro _ -
  by_cases h20 : 20 < n
  · refine go_Sqf ?_
    exact se_ret1 () trivial rfl rfl (by exact sub_)
  have h := h' (by omega)
  clear h'
  refine go_Sqf ?_
  refine sl_call rfl rfl (by kernel_rfl) rfl Sub.refl (stask_ok s) ?_
  rintro _ -
  rw [← Sk.ta_c]
  refine go_Sqf ?_
  refine sl_pu (pu_build (v := .agg rlB.c.toArray) rfl (fun W => by kernel_rfl)) rfl ?_
  refine go_Sqf ?_
  refine sl_alloc rfl rfl rfl ?_; intro g7
  refine sl_alloc rfl rfl rfl ?_; intro g8
  refine go_Sqf ?_
  refine sl_call rfl rfl (by kernel_rfl) rfl Sub.refl newD_ok ?_
  rintro ⟨gd, md⟩ -
  dsimp only
  rw [show limL 1048576 = 1048576 by rfl]
  refine go_Sqf ?_
  have hr : rErr rlB s.ta = 0 := by
    unfold rErr
    rw [if_neg (by rw [s.ta_ok]; decide), if_neg (by decide), if_neg (by decide)]
  refine sl_call rfl rfl (by kernel_rfl) rfl (by exact sub_) (hopF (gd := gd) (md := md) (t := s.ta) (K0 := blk g7 34 s.ta.c :: blk g8 38 rlB.c :: K) hr) ?_
  rintro (p | ⟨g, q, f, ck⟩) hp
  · exact hp.2.elim
  obtain ⟨p, q0, hp1, hI, hq, hF⟩ := hp
  dsimp only at hq hF
  obtain ⟨i1, i2, i3, i4, i5, i6⟩ := hI
  have hlf : q.life = 1 := by rw [hq, i6]; rfl
  have hI0 : HI q.gj ⟨0, q, [5 :: rcLife 1], f, ck⟩ := by
    refine ⟨⟨rfl, by rw [hq]; show Srt q0.ss; rw [i2]; exact srt_nil, by rw [hq]; show q0.ss.length ≤ 300; rw [i2]; decide, by rw [hq]; exact i3, fun w hw => ?_, by rw [hlf]; decide⟩, by rw [hq]; show q0.ss.length = 0; rw [i2]; rfl, fun x hx => ?_, fun x hx => ?_, rfl, ⟨_, by rw [i6] at hF; exact hF⟩⟩
    · rw [hq] at hw
      have hw2 : w ∈ q0.ws := hw
      rw [i4] at hw2
      cases hw2
    · rw [hq] at hx
      have hx2 : x ∈ q0.ss := hx
      rw [i2] at hx2
      cases hx2
    · rw [List.mem_singleton] at hx
      subst hx
      exact ⟨by decide, by unfold IsBytes; decide, .inr rfl⟩
  dsimp only [orV, orH]
  rw [hlf]
  obtain ⟨gj, hgj⟩ : ∃ gj, gj = q.gj := ⟨_, rfl⟩
  rw [← hgj] at hI0
  refine go_Sqf ?_
  refine sc_for (fun z : HS => [(1, .int .u32 u), (7, .pointer (some ⟨g7, 0, none⟩)), (8, .pointer (some ⟨g8, 0, none⟩)), (9, .pointer (some ⟨gd, 0, none⟩)), (10, .pointer (some ⟨g, 0, none⟩)), (11, .int .i64 0), (36, .slice A n c), (37, .int .i64 n), (38, .int .i64 z.j)])
    (fun z => sF g s.ta rlB 200 z.q (jC z.q.gj gd sj (cellsA z.ls) :: dB gd md 1048576 :: dM md [z.f] z.ck :: dS [z.f] :: blk g7 34 s.ta.c :: blk g8 38 rlB.c :: K)) (fun z => z.j ≤ n ∧ HI gj z) (fun z => n - z.j)
    ⟨0, q, [5 :: rcLife 1], f, ck⟩ (by exact has_) (by exact sub_) ⟨Nat.zero_le _, hI0⟩ ?_
  rintro ⟨j, q2, ls, f2, ck2⟩ ⟨hj, hI⟩
  dsimp only at hj hI ⊢
  by_cases hlt : j < n
  · have hjn : j < 20 := by omega
    have hj256 : j < 256 := by omega
    obtain ⟨hv, -, -, -, hbl, hbb⟩ := h
    refine sc_know (fun w hw => vw_form hv (by omega) w (hw.sub (by exact sub_))) ?_
    rintro ⟨ad, rfl⟩
    obtain ⟨b, hbj⟩ : ∃ b, bs[j]? = some b := ⟨bs[j]'(by omega), List.getElem?_eq_getElem (by omega)⟩
    have hb := hbb b (List.mem_of_getElem? hbj)
    have hb2 : 0 ≤ b ∧ b ≤ 255 := ⟨hb.1, by omega⟩
    have hnth : nth (bytes bs) (j * 1) = some (.int .u8 b) := by
      rw [nth_eq, Nat.mul_one, bytes, List.getElem?_map, hbj]
      rfl
    refine go_Sqf ?_
    refine sl_pu (pu_ldr (hv.mono (by exact sub_)) (by omega) rfl rfl hnth) rfl ?_
    refine go_Sqf ?_
    refine sl_pu (pu_build (v := (idJ b j hb2 hj256).v) rfl (fun W => by kernel_rfl)) rfl ?_
    refine go_Sqf ?_
    refine sl_pu (pu_build (v := .agg (rpC (idJ b j hb2 hj256) j (.slice none 0 0) (.slice none 0 0)).toArray) rfl (fun W => by kernel_rfl)) rfl ?_
    refine go_Sqf ?_
    have hjt : 0 ≤ (j : Int) ∧ (j : Int) ≤ 18446744073709551615 := ⟨by omega, by omega⟩
    have hacc := hI.acc (b := b) (hb := hb2) (hj := hj256) hjn
    dsimp only at hacc
    obtain ⟨σ, hfl⟩ := hI.fl
    have hone := hI.one
    have hll := hI.ll
    have hcl : cellsA ls = ls.length := one_cells hone
    have hr1 := (rcB_ok (id := idJ b j hb2 hj256) (t := j) hjt.1)
    have hsa := sAccept_ok (K := blk g7 34 s.ta.c :: blk g8 38 rlB.c :: K) (g := g) (gd := gd) (md := md) (ckd := ck2) (t := s.ta) (r := rlB) (lim := 200) (limd := 1048576) (q := q2) (ls := ls) (fs := [f2]) (id := idJ b j hb2 hj256) (tm := j) (pA := none) (sA := none) (p := []) (s := []) (pc := 0) (sc := 0)
      (by decide) (by decide) hjt hI.si.srt (by have := hI.si.len; dsimp only at this; omega) (fun hh => hI.si.no hh) (fun w _ => Reads.nil_ _) (fun w _ => Reads.nil_ _) (fun _ => ⟨.inr ⟨f2, rfl, hfl⟩, hr1.2.1, by have := hr1.1.2; omega, by rw [hcl]; dsimp only at hll; omega, by rw [many_48 hr1.1.2, hcl]; dsimp only at hll; omega, by decide⟩)
    rw [show accE rlB 200 q2 (idJ b j hb2 hj256) j ([] : List Int).length ([] : List Int).length = 0 from hacc] at hsa
    refine sl_call rfl rfl (by kernel_rfl) rfl (by exact sub_) hsa ?_
    clear hsa
    rintro (_ | ⟨q3, f3, ck3⟩) hz
    · exact (hz rfl).elim
    obtain ⟨-, hF3, A1, c1, pA, pc, sA, sc, hq3⟩ := hz
    dsimp only at hF3 hq3
    dsimp only [saH]
    have hI3 := hI.next (b := b) (hb := hb2) (hj := hj256) hjn (ht := hjt) (A1 := A1) (c1 := c1) (w := ⟨idJ b j hb2 hj256, j, pA, pc, [], sA, sc, [], q2.cw⟩) rfl (ck2 := ck3) hF3
    dsimp only at hI3
    rw [← hq3] at hI3
    refine go_Sqf ?_
    exact se_round ⟨j + 1, q3, ls ++ [1 :: rcAcc (idJ b j hb2 hj256) j [] []], f3, ck3⟩ (by exact has_) (by exact sub_) ⟨hlt, hI3⟩ (by show n - (j + 1) < n - j; omega)
  · obtain rfl : j = n := by omega
    refine go_Sqf ?_
    obtain ⟨σ, hfl⟩ := hI.fl
    have hone := hI.one
    have hll := hI.ll
    dsimp only at hone hll hfl
    have hcl : cellsA ls = ls.length := one_cells hone
    have hfl2 : f2.l.length = ls.length * 64 := by rw [hfl.2.1, allL_len, hcl]
    refine sl_call rfl rfl (by kernel_rfl) rfl (by exact sub_) (ssync_ok (g := g) (gj := q2.gj) (gi := q2.gi) (gb := q2.gb) (mw := q2.mw) (ms := q2.ms) (gd := gd) (md := md) (ckd := ck2) (k := cellsA ls) (t := s.ta) (life := q2.life) (lim := 1048576) (K := blk g7 34 s.ta.c :: blk g8 38 rlB.c :: K) hfl (by omega)) ?_
    rintro f3 hF3
    have hl3 : f3.l.length = ls.length * 64 := by rw [hF3.2.1, allL_len, hcl]
    refine go_Sqf ?_
    have hrd := readD_ok (K := dB gd md 1048576 :: dM md [f3] ck2 :: dS [f3] :: blk g7 34 s.ta.c :: blk g8 38 rlB.c :: K) (g := gd) (m := md) (ck := ck2) (lim := 1048576) (fs := [f3]) (f := f3) (by exact at_) (by exact at_) (by exact at_) (List.mem_singleton.2 rfl) (by omega)
    rw [hF3.1, hl3] at hrd
    refine sl_call rfl rfl (by kernel_rfl) rfl (by exact sub_) hrd ?_
    clear hrd
    rintro ⟨A4, c4⟩ -
    have hq64 : ((ls.length * 64 : Nat) : Int) / 64 = ls.length := by omega
    refine go_Sqf ?_
    rw [hq64]
    by_cases h2 : (ls.length : Int) < 2
    · rw [decide_eq_true h2]
      refine go_Sqf ?_
      exact se_ret1 () trivial rfl rfl (by exact sub_)
    rw [decide_eq_false h2]
    refine go_Sqf ?_
    have hm0 : 0 < 512 * ((ls.length : Int) - 1) := by omega
    have hm1 := Int.emod_nonneg u (show 512 * ((ls.length : Int) - 1) ≠ 0 by omega)
    have hm2 := Int.emod_lt_of_pos u hm0
    obtain ⟨kk, hkk⟩ : ∃ kk : Nat, u % (512 * ((ls.length : Int) - 1)) = kk := ⟨_, (Int.toNat_of_nonneg hm1).symm⟩
    rw [hkk] at hm2 ⊢
    have hkl : kk < 8 * f3.l.length := by omega
    have htn := turnD_ok (K := u8o A4 c4 f3.l :: blk g7 34 s.ta.c :: blk g8 38 rlB.c :: K) (X := []) (Y := []) (g := gd) (m := md) (ck := ck2) (lim := 1048576) (f := f3) hkl (by omega)
    rw [hF3.1] at htn
    refine sl_call rfl rfl (by kernel_rfl) rfl (by exact sub_) htn ?_
    clear htn
    rintro ⟨A5, c5⟩ -
    dsimp only
    refine go_Sqf ?_
    have hot := open_turned (K0 := u8o A4 c4 f3.l :: blk g7 34 s.ta.c :: blk g8 38 rlB.c :: K) (gd := gd) (md := md) (ckd := ck2) (kk := kk) (f := ⟨sj, A5, c5, turnL f3.l kk, f3.sy, f3.bn⟩) (ls := ls) (t := s.ta) (r := rlB) (limit := 200) hr (by decide) hone (by omega) rfl (by rw [← hF3.2.1]) (by rw [turnL_len]; exact hF3.2.2.1) (allL_bytes ls fun x hx => (hone x hx).2.1)
    refine sl_call rfl rfl (by kernel_rfl) rfl (by exact sub_) hot ?_
    clear hot
    rintro (_ | g9) -
    · dsimp only [hoV]
      refine go_Sqf ?_
      exact se_ret1 () trivial rfl rfl (by exact sub_)
    · dsimp only [hoV]
      refine go_Sqf ?_
      exact se_ret1 () trivial rfl rfl (by exact sub_)
theorem SHalts_v (v0 v2 : Value) (u : Int) (W : World) (o0 : SkV W v0) (b1 : 0 ≤ u ∧ u ≤ 4294967295) (o2 : BxV W v2) : Calls Tryz.prog 3 #[v0, .int .u32 u, v2] W fun e w' => e = .returned (.bool true) ∧ Fr Nil W w' := by
  obtain ⟨s, rfl⟩ := o0
  obtain ⟨b, rfl, hb⟩ := o2
  have hm := hb.2.2
  unfold maxLen at hm
  exact Fn.top (halts_walk b1 (fun hl => hb.rd (by omega)))
end Go.Proofs.YtocaabnbmcpjmaaGreat
