/- Several texts of one claim, one behind the other (PkM, At, Op). -/
import Derived.Test.YtemhhhikopemmaaB02
import Derived.Test.YtemhhhikopemmaaB01
import Derived.Deep.Slices
import Derived.OpenShut
/- The Reader's methods: contracts. -/
namespace Go.Proofs.Ytemhhhikopemmaa
open Go.RowKit
attribute [local go_sem ↓] Go.wp_at_zero Go.wp_at_succ

set_option maxHeartbeats 400000 in
theorem Fail_stop {w : World} {r : Nat} {s : Value} (h : Blk w r 111 #[s, .bool true]) (c : Int) (hc : (c == 0) = false) :
    Calls Try.prog 61 #[.pointer (some ⟨r, 0, none⟩), .int .i64 c] w fun e w' => e = .panicked [{ v := stopV c, recovered := false }] ∧ w = w' := by
  have c1 := h.cell 1
  simp at c1
  have hc' : ¬ c = 0 := by simpa using hc
  go_enter Try.func61, Try.ntmps61
  go_wp2
  exact ⟨rfl, rfl, rfl⟩

/-- What a take of bytes leaves. -/
structure Got (w : World) (r : Nat) (A : Option Addr) (rest : List Int) (k : Nat) (e : Ending) (w' : World) : Prop where
  ok : ∃ P cp, e = .returned (.slice P k cp) ∧ w'.ownsRow 0 5 1 (.slice P k cp) k (bytes (rest.take k)) ∧ ∀ g, blockOf P = some g → w.heap.size ≤ g
  rd : Next w' r A (rest.drop k)
  fr : Fr (fun g => g = r) w w'

/-- Bytes don't lie in a block that holds none. -/
theorem reads_ne {w : World} {A : Option Addr} {n g : Nat} {rest : List Int} {t : TypeId} {cs : Array Value} (h : Reads w 1 A n (bytes rest)) (hn : 0 < n) (hb : Blk w g t cs) (hc : ∀ u ∈ cs.toList, ∀ z, u ≠ .int .u8 z) : blockOf A ≠ some g := by
  intro e
  obtain ⟨ad, rfl, hce⟩ := h.2 hn
  have hl : 0 < (bytes rest).length := by rw [h.1]; omega
  have h0 := hce 0 _ (List.getElem?_eq_getElem hl)
  have hbk : ad.block = g := Option.some.inj e
  have hsp : ad.add 0 = ad := by simp [Addr.add]
  rw [hsp] at h0
  unfold Blk at hb
  unfold World.cell? at h0
  rw [hbk, hb] at h0
  simp only at h0
  split at h0
  · cases h0
  · have hu : (bytes rest)[0] = .int .u8 (rest[0]'(by simpa [bytes] using hl)) := by simp [bytes]
    rw [hu] at h0
    exact hc _ (by rw [← Array.getElem?_toList] at h0; exact List.mem_of_getElem? h0) _ rfl

theorem RdR.ne {w : World} {r : Nat} {A : Option Addr} {n cap : Nat} {rest : List Int} {live : Bool} (h : RdR w r A n cap rest live) (hn : 0 < n) : ∀ g, blockOf A = some g → g ≠ r := by
  rintro g hg rfl
  exact reads_ne h.reads hn h.blk (by intro u hu z; simp at hu; rcases hu with rfl | rfl <;> simp) hg

/-- A Reader where another block, of no bytes, is written. -/
theorem RdR.other {w : World} {r g : Nat} {A : Option Addr} {n cap : Nat} {rest : List Int} {live : Bool} {t : TypeId} {cs : Array Value} (h : RdR w r A n cap rest live) (hb : Blk w g t cs) (hc : ∀ u ∈ cs.toList, ∀ z, u ≠ .int .u8 z) (hgr : g ≠ r)
    {w' : World} (hf : Fr (fun k => k = g) w w') : RdR w' r A n cap rest live := by
  refine ⟨h.blk.fr hf (Ne.symm hgr), ?_, h.le, h.big⟩
  rcases Nat.eq_zero_or_pos n with h0 | h0
  · subst h0
    have : rest = [] := List.eq_nil_of_length_eq_zero (len_of_reads h.reads)
    rw [this]
    exact Reads.nil_ _
  · exact h.reads.fr hf (by
      rintro k hk rfl
      exact reads_ne h.reads h0 hb hc hk)

set_option maxRecDepth 100000 in
set_option maxHeartbeats 1600000 in
theorem RRaw_ok {w : World} {r : Nat} {A : Option Addr} {n cap : Nat} {rest : List Int} (h : RdR w r A n cap rest true) (k : Nat) (hk : k ≤ n) (hbig : n ≤ 70368744177664) :
    Calls Try.prog 54 #[.pointer (some ⟨r, 0, none⟩), .int .i64 k] w (Got w r A rest k) := by
  obtain ⟨i0, hi0, hz0, hz1, hz2⟩ := info_parts Try.info5
  have c0 := h.blk.cell 0
  have c1 := h.blk.cell 1
  have f0 := h.blk.frozen 0
  have hrw := h.blk.lt
  simp at c0 c1
  have hki : (k : Int) ≤ (n : Int) := by omega
  have hle := h.le
  have hkc : (k : Int) ≤ (cap : Int) := by omega
  have hnc : (n : Int) ≤ (cap : Int) := by omega
  have hcut := h.reads.cut hk h.le
  rw [Nat.mul_one, show (bytes rest).drop k = bytes (rest.drop k) from by simp [bytes]] at hcut
  have htk := h.reads.take hk
  rw [Nat.mul_one, show (bytes rest).take k = bytes (rest.take k) from by simp [bytes]] at htk
  have hAr : ∀ g, blockOf (if cap = k then A else A.map (·.add k)) = some g → blockOf A = some g := by
    intro g hg
    split at hg
    · exact hg
    · cases A with
      | none => cases hg
      | some ad => simpa [blockOf, add_block] using hg
  obtain ⟨A2, hA2⟩ : ∃ A2 : Option Addr, A2 = (if cap = k then A else A.map (·.add k)) := ⟨_, rfl⟩
  rw [← hA2] at hcut hAr
  have hsl : ∀ W, (Instr.slice 23 (.slice A n cap) (some (.int .i64 k)) none none).run Try.prog W = .ok (.slice A2 (n - k) (cap - k)) W := by
    intro W
    have hi : i0.size = 1 := hz1
    rw [hA2]
    simp [Instr.slice, Instr.sliceBounds, Instr.sliceBound, run_underlying Try.underlying23, asIntOf, sizeOf, typeInfo, hi0, hi, hki, hk]
  clear hA2
  go_enter Try.func54, Try.ntmps54
  go_wp2_with (at_builtin; refine wpList_app _ rfl (.tmp 28) (.tmp 34) 23 rfl 5 i0 (.int .u8 0) 1 1 Try.underlying23 hi0 hz0 hz1 hz2 rfl (by omega) (.slice (some ⟨w.heap.size, 0, none⟩) 0 0) 0 [] rfl (own_empty _ _ _ _ rfl) A k cap (bytes (rest.take k)) rfl (htk.fr ((Fr.refl Nil w).alloc _) (fun _ _ e => e)) (one_bytes _) (by unfold maxLen; omega) (by omega) ?_; intro v2 w2 hown2 hg2 hat2; obtain ⟨V2, cp2, rfl⟩ := own_form hown2; rw [Nat.zero_add] at hown2 hat2; have hF2 : Fr Nil w w2 := ((Fr.refl Nil w).alloc _).grown hg2 (by intro k hk hlt; simp [Value.ownBlock] at hk; omega); have hB2 := h.blk.fr hF2 (fun e => e); have d0 := hB2.cell 0; have d1 := hB2.frozen 0; simp at d0)
  go_ret
  have hfresh : ∀ g, (Value.slice V2 k cp2).ownBlock = some g → w.heap.size ≤ g := by
    intro g hg
    rcases hat2 with e | e <;> rw [e] at hg <;> simp [Value.ownBlock] at hg <;> omega
  have hFr : Fr (fun g => g = r) w2 (w2.setCell ⟨r, 0, none⟩ (.slice A2 (n - k) (cap - k))) := (Fr.refl (fun g => g = r) w2).setCell (.inr rfl) _
  refine ⟨⟨V2, cp2, rfl, own_fr (by simpa using hown2) hFr (fun g hg e => by have := hfresh g hg; omega), fun g hg => hfresh g (own_of_blockOf hg)⟩, ⟨A2, n - k, cap - k, ⟨?_, ?_, by omega, by have := h.big; omega⟩, hAr⟩, (hF2.mono (fun _ _ e => False.elim e)).trans hFr (fun _ _ e => e)⟩
  · have := hB2.set_ 0 (.slice A2 (n - k) (cap - k))
    simpa using this
  · rcases Nat.eq_zero_or_pos (n - k) with h0 | h0
    · rw [h0]
      have hnil : rest.drop k = [] := List.eq_nil_of_length_eq_zero (by have := len_of_reads h.reads; simp; omega)
      rw [hnil]
      exact Reads.nil_ _
    · exact (hcut.fr hF2 (fun _ _ e => e)).fr hFr (fun g hg e => h.ne (by omega) g (hAr g hg) e)

set_option maxHeartbeats 800000 in
theorem RRaw_short {w : World} {r : Nat} {A : Option Addr} {n cap : Nat} {rest : List Int} (h : RdR w r A n cap rest true) (k : Int) (hk : k < 0 ∨ (n : Int) < k) :
    Calls Try.prog 54 #[.pointer (some ⟨r, 0, none⟩), .int .i64 k] w fun e w' => e = .panicked [{ v := stopV 3, recovered := false }] ∧ w = w' := by
  have c0 := h.blk.cell 0
  have c1 := h.blk.cell 1
  simp at c0 c1
  by_cases hk0 : k < 0
  all_goals
    go_enter Try.func54, Try.ntmps54
    go_wp2_with (go_at_call 61; refine (Fail_stop h.blk 3 rfl).mono ?_; rintro e w' ⟨rfl, rfl⟩)
    exact ⟨rfl, rfl, rfl⟩

set_option maxRecDepth 100000 in
set_option maxHeartbeats 1600000 in
theorem RUint_ok {w : World} {r : Nat} {A : Option Addr} {n cap : Nat} {rest : List Int} (h : RdR w r A n cap rest true) (hb : IsBytes rest) (k : Nat) (hk8 : k ≤ 8) (hk : k ≤ n) (hbig : n ≤ 70368744177664) :
    Calls Try.prog 52 #[.pointer (some ⟨r, 0, none⟩), .int .i64 k] w fun e w' => e = .returned (.int .u64 (leV (rest.take k))) ∧ Next w' r A (rest.drop k) ∧ Fr (fun g => g = r) w w' := by
  have hk8i : (k : Int) ≤ 8 := by omega
  go_enter Try.func52, Try.ntmps52
  go_wp2_with (go_at_call 54; refine (RRaw_ok h k hk hbig).mono ?_; rintro e w1 ⟨⟨P, cp, rfl, hown, hfr⟩, hR1, hF1⟩)
  have htl : (rest.take k).length = k := by have := len_of_reads h.reads; simp; omega
  have htb : IsBytes (rest.take k) := hb.take k
  obtain ⟨xs, hxs⟩ : ∃ xs, xs = rest.take k := ⟨_, rfl⟩
  rw [← hxs] at htl htb hown
  have HX := Lib.hid hxs
  clear hxs
  go_loop [14, 5] (fun q v => ∃ j : Nat, j ≤ k ∧ q = .int .i64 j ∧ v = .int .u64 (leV (xs.take j))) (fun q _ => k - (intOf q).toNat)
  case atStart => exact ⟨0, Nat.zero_le _, rfl, rfl⟩
  case round =>
    obtain ⟨j, hj, rfl, rfl⟩ := hrel
    by_cases hlt : j < k
    · obtain ⟨g, cp', hv, _, _⟩ := hown.form (by omega)
      injection hv with hv1 hv2 hv3
      subst hv1 hv3
      have hxl : j < xs.length := by omega
      have e0 := hown.cellAt j (by omega)
      rw [show (bytes xs)[j]? = some (.int .u8 xs[j]) from by simp [bytes, hxl]] at e0
      have hlti : (j : Int) < (k : Int) := by omega
      have hkp : (0 : Int) ≤ (j : Int) := by omega
      have hj7 : (j : Int) ≤ 7 := by omega
      have hx0 : 0 ≤ xs[j] := (htb _ (List.getElem_mem hxl)).1
      have hx1 : xs[j] ≤ 255 := by have := (htb _ (List.getElem_mem hxl)).2; omega
      have hst := or_step htb j hxl (by omega)
      have HST := Lib.hid hst
      clear hst
      go_wp2
      go_round
      case rel => exact ⟨j + 1, by omega, by go_num, by rw [HST.out]⟩
      case measure => simp [intOf]; omega
    · obtain rfl : k = j := by omega
      go_wp2
      go_ret
      exact ⟨by rw [← HX.out, ← htl]; simp, hR1, hF1⟩

theorem RUint_short {w : World} {r : Nat} {A : Option Addr} {n cap : Nat} {rest : List Int} (h : RdR w r A n cap rest true) (k : Nat) (hk8 : k ≤ 8) (hk : n < k) :
    Calls Try.prog 52 #[.pointer (some ⟨r, 0, none⟩), .int .i64 k] w fun e w' => e = .panicked [{ v := stopV 3, recovered := false }] ∧ w = w' := by
  have hk8i : (k : Int) ≤ 8 := by omega
  go_enter Try.func52, Try.ntmps52
  go_wp2_with (go_at_call 54; refine (RRaw_short h k (.inr (by omega))).mono ?_; rintro e w1 ⟨rfl, rfl⟩)
  exact ⟨rfl, rfl, rfl⟩

set_option maxHeartbeats 800000 in
/-- A number up to another one: the bytes are there. -/
theorem RCount_ok {w : World} {r : Nat} {A : Option Addr} {n cap : Nat} {rest : List Int} (h : RdR w r A n cap rest true) (hb : IsBytes rest) (k : Nat) (hk8 : k ≤ 8) (hk : k ≤ n) (hbig : n ≤ 70368744177664) (most : Int) (hm : leV (rest.take k) ≤ most) :
    Calls Try.prog 53 #[.pointer (some ⟨r, 0, none⟩), .int .i64 k, .int .u64 most] w fun e w' => e = .returned (.int .i64 (wrap64 (leV (rest.take k)))) ∧ Next w' r A (rest.drop k) ∧ Fr (fun g => g = r) w w' := by
  have hm' : decide (most < leV (rest.take k)) = false := by simp; omega
  clear hm
  go_enter Try.func53, Try.ntmps53
  go_wp2_with (go_at_call 52; refine (RUint_ok h hb k hk8 hk hbig).mono ?_; rintro e w1 ⟨rfl, hR1, hF1⟩)
  go_ret
  exact ⟨rfl, hR1, hF1⟩

set_option maxHeartbeats 800000 in
theorem RCount_range {w : World} {r : Nat} {A : Option Addr} {n cap : Nat} {rest : List Int} (h : RdR w r A n cap rest true) (hb : IsBytes rest) (k : Nat) (hk8 : k ≤ 8) (hk : k ≤ n) (hbig : n ≤ 70368744177664) (most : Int) (hm : most < leV (rest.take k)) :
    Calls Try.prog 53 #[.pointer (some ⟨r, 0, none⟩), .int .i64 k, .int .u64 most] w fun e w' => e = .panicked [{ v := stopV 6, recovered := false }] ∧ Next w' r A (rest.drop k) ∧ Fr (fun g => g = r) w w' := by
  go_enter Try.func53, Try.ntmps53
  go_wp2_with (first | (go_at_call 52; refine (RUint_ok h hb k hk8 hk hbig).mono ?_; rintro e w1 ⟨rfl, ⟨A1, n1, c1, hR1, hA1⟩, hF1⟩) | (go_at_call 61; refine (Fail_stop hR1.blk 6 rfl).mono ?_; rintro e w' ⟨rfl, rfl⟩))
  exact ⟨rfl, rfl, ⟨A1, n1, c1, hR1, hA1⟩, hF1⟩

end Go.Proofs.Ytemhhhikopemmaa
/- A value that is loaded at any place; cells that have not turned. No program is in sight. -/
namespace Go.Proofs.Ytemhhhikopemmaa
open Go.RowKit

/-! ### A value at any place -/
section
variable {P : Program}
theorem run_loadVar_at (w : World) (a : Addr) (ty : TypeId) (cs : List Value) (d : TypeDesc) (hc : ∀ j v, cs[j]? = some v → w.cell? (a.add j) = some v)
    (hu : P.underlying ty = some d) (hd : (match d with | .struct _ | .array _ _ => true | _ => false) = true) (hi : (P.info? ty).map (·.size) = some cs.length) :
    (loadVar ty a).run P w = .ok (.agg cs.toArray) w := by
  have hl := run_loadCells_list (P := P) w a cs hc
  cases hq : P.info? ty with
  | none => simp [hq] at hi
  | some i =>
    have hs : i.size = cs.length := by simpa [hq] using hi
    have hagg : (isAgg ty).run P w = .ok true w := by
      unfold isAgg
      rw [Sem.run_bind, run_underlying hu w]
      cases d <;> simp_all
    simp [loadVar, Sem.run_bind, hagg, sizeOf, typeInfo, hq, hs, hl]

theorem wpList_load_at {ops : Array Oper} {rest : List Oper} {o : Oper} {a : Act} {w : World} {Q : Exit → Act → World → Prop} (hgd : o.guard = none) (ty : TypeId) (x : Operand) (ho : o.op = .load ty x)
    (ad : Addr) (hx : a.eval x = .pointer (some ad)) (cs : List Value) (d : TypeDesc) (hc : ∀ j v, cs[j]? = some v → w.cell? (ad.add j) = some v)
    (hu : P.underlying ty = some d) (hd : (match d with | .struct _ | .array _ _ => true | _ => false) = true) (n : Nat) (hi : (P.info? ty).map (·.size) = some n) (hn : cs.length = n)
    (h : wpList P ops Q rest (a.put o.dst (.agg cs.toArray)) w) : wpList P ops Q (o :: rest) a w := by
  refine wpList_plain hgd fun K hK => ?_
  unfold Oper.wp execOp
  simp only [ho, hx, Instr.loadAt, Instr.sureAddr, Sem.run_bind, Sem.run_pure, Result.andThen_ok, run_loadVar_at w ad ty cs d hc hu hd (by rw [hn]; exact hi)]
  exact hK _ _ h
end

theorem cell_fr {S : Nat → Prop} {w w' : World} {p : Addr} {v : Value} (hf : Fr S w w') (hp : ¬ S p.block) (h : w.cell? p = some v) : w'.cell? p = some v := by
  have hlt : p.block < w.heap.size := by
    by_cases hc : p.block < w.heap.size
    · exact hc
    · unfold World.cell? at h
      rw [Array.getElem?_eq_none (by omega)] at h
      cases h
  rw [hf.cell hlt hp]
  exact h

end Go.Proofs.Ytemhhhikopemmaa
/- What came in, opened to cells: bytes, arrays of bytes. No program is in sight. -/
namespace Go.Proofs.Ytemhhhikopemmaa
open Go.RowKit Go.ChangeShapes Go.WideShapes Go.Deep

section
variable {H : Type} {enc : TypeId × Value → H} {P : Program} {w : World} {base : Nat} {spare : Nat → Bool} {held : Bool} {fuel : Nat} {t e : TypeId} {cs : List Value} {x : DataW H × List MemPlace}

/-- Bytes that came in. -/
def BytesIs (w : World) (v : Value) (bs : List Int) : Prop := ∃ A n c, v = .slice A n c ∧ Reads w 1 A n (bytes bs) ∧ IsBytes bs ∧ n ≤ c ∧ c ≤ maxLen

theorem open_bytes (ht : P.underlying t = some (.slice e)) (he : P.underlying e = some (.int .u8)) (hc : P.cellsOf e = 1) (h : DataW.trod enc P w base spare held fuel t cs = some x) : ∃ v bs, cs = [v] ∧ BytesIs w v bs := by
  rcases open_ints ht he hc h with ⟨rfl, _⟩ | ⟨a, len, cap, zs, rfl, _, hl, hm, hz, _, hcell, hw⟩
  · exact ⟨_, [], rfl, ⟨none, 0, 0, rfl, Reads.nil_ _, (by intro y hy; cases hy), Nat.le_refl _, Nat.zero_le _⟩⟩
  · have hlz : len ≤ zs.length := by rw [hz]; split <;> omega
    refine ⟨_, zs.take len, rfl, ⟨some a, len, cap, rfl, ⟨by simp [bytes]; omega, fun _ => ⟨a, rfl, fun j u hu => ?_⟩⟩, ?_, hl, hm⟩⟩
    · have hj : j < len := by
        have := (List.getElem?_eq_some_iff.1 hu).1
        simp [bytes] at this
        omega
      rw [hcell j (by omega)]
      simp [bytes, List.getElem?_take, hj, List.getElem?_eq_getElem (show j < zs.length by omega)] at hu
      rw [← hu]
      simp [List.getD, List.getElem?_eq_getElem (show j < zs.length by omega)]
    · intro y hy
      have h2 : 0 ≤ y ∧ y ≤ 255 := by simpa [Lit.wf, IntKind.min, IntKind.max, IntKind.signed, IntKind.bits] using hw y (List.mem_of_mem_take hy)
      omega

/-- An array of bytes that came in. -/
theorem open_array {n : Nat} (ht : P.underlying t = some (.array n e)) (he : P.underlying e = some (.int .u8)) (hc : P.cellsOf e = 1) (hn : P.cellsOf t = n) (h : DataW.trod enc P w base spare held fuel t cs = some x) : ∃ bs, cs = bytes bs ∧ bs.length = n ∧ IsBytes bs := by
  obtain ⟨xs, m, _, _, hl, hx, hi⟩ := DataW.trod_array ht h
  rw [hn] at hl
  have hone : ∀ i, i < n → ∃ z : Int, cs[i]? = some (.int .u8 z) ∧ 0 ≤ z ∧ z < 256 := by
    intro i hin
    have h1 := hi i hin
    rw [hc, Nat.mul_one, List.getElem?_eq_getElem (by omega)] at h1
    obtain ⟨z, h2, _, h3⟩ := DataW.trod_int he h1
    have h4 : 0 ≤ z ∧ z ≤ 255 := by simpa [Lit.wf, IntKind.min, IntKind.max, IntKind.signed, IntKind.bits] using h3
    refine ⟨z, ?_, by omega, by omega⟩
    have h5 : ((cs.drop i).take 1)[0]? = some (.int .u8 z) := by rw [h2]; rfl
    simpa using h5
  obtain ⟨f, hf⟩ := choose_lt hone
  refine ⟨(List.range n).map f, ?_, by simp, ?_⟩
  · apply List.ext_getElem?
    intro i
    by_cases hin : i < n
    · rw [(hf i hin).1]; simp [bytes, hin]
    · rw [List.getElem?_eq_none (by omega)]; simp [bytes, hin]
  · intro y hy
    obtain ⟨i, hi2, rfl⟩ := List.mem_map.1 hy
    exact (hf i (List.mem_range.1 hi2)).2
end

/-- A list of rows of sz cells each, cell by cell. -/
theorem flatMap_at {X : Type} {sz : Nat} (toC : X → List Value) : ∀ (xs : List X), (∀ x ∈ xs, (toC x).length = sz) → ∀ (j : Nat) (u : Value), (xs.flatMap toC)[j]? = some u → ∃ i r x, xs[i]? = some x ∧ (toC x)[r]? = some u ∧ j = i * sz + r
  | [], _, j, u, h => by simp at h
  | x :: xs, hl, j, u, h => by
    rw [List.flatMap_cons] at h
    by_cases hj : j < (toC x).length
    · rw [List.getElem?_append_left hj] at h
      exact ⟨0, j, x, rfl, h, by simp⟩
    · rw [List.getElem?_append_right (by omega)] at h
      obtain ⟨i, r, y, h1, h2, h3⟩ := flatMap_at toC xs (fun y hy => hl y (List.mem_cons_of_mem _ hy)) _ u h
      have := hl x (List.mem_cons_self ..)
      refine ⟨i + 1, r, y, by simpa using h1, h2, ?_⟩
      rw [Nat.succ_mul]
      omega
theorem flatMap_get {X : Type} {sz : Nat} (toC : X → List Value) : ∀ (xs : List X), (∀ x ∈ xs, (toC x).length = sz) → ∀ (i r : Nat) (x : X) (u : Value), xs[i]? = some x → (toC x)[r]? = some u → (xs.flatMap toC)[i * sz + r]? = some u
  | [], _, i, r, x, u, h, _ => by simp at h
  | y :: ys, hl, 0, r, x, u, h, hu => by
    simp at h
    subst h
    rw [List.flatMap_cons, Nat.zero_mul, Nat.zero_add, List.getElem?_append_left (List.getElem?_eq_some_iff.1 hu).1]
    exact hu
  | y :: ys, hl, i + 1, r, x, u, h, hu => by
    rw [List.flatMap_cons, List.getElem?_append_right (by rw [hl y (List.mem_cons_self ..), Nat.succ_mul]; omega), hl y (List.mem_cons_self ..), Nat.succ_mul, show i * sz + sz + r - sz = i * sz + r from by omega]
    exact flatMap_get toC ys (fun z hz => hl z (List.mem_cons_of_mem _ hz)) i r x u (by simpa using h) hu
theorem flatMap_len {X : Type} {sz : Nat} (toC : X → List Value) (xs : List X) (hl : ∀ x ∈ xs, (toC x).length = sz) : (xs.flatMap toC).length = xs.length * sz := by
  induction xs with
  | nil => simp
  | cons x r ih => rw [List.flatMap_cons, List.length_append, ih (fun y hy => hl y (List.mem_cons_of_mem _ hy)), hl x (List.mem_cons_self ..), List.length_cons, Nat.succ_mul, Nat.add_comm]

section
variable {H : Type} {enc : TypeId × Value → H} {P : Program} {w : World} {base : Nat} {spare : Nat → Bool} {held : Bool} {fuel : Nat} {t e : TypeId} {cs : List Value} {x : DataW H × List MemPlace}
/-- A slice of rows that came in: the elements, each by its own law. -/
theorem open_rows {X : Type} [Inhabited X] (sz : Nat) (toC : X → List Value) (ok : X → Prop) (ht : P.underlying t = some (.slice e)) (hC : P.cellsOf e = sz)
    (hX : ∀ n cs y, DataW.trod enc P w base spare held n e cs = some y → ∃ x, cs = toC x ∧ ok x) (h : DataW.trod enc P w base spare held fuel t cs = some x) :
    ∃ (A : Option Addr) (n c : Nat) (xs : List X), cs = [.slice A n c] ∧ xs.length = n ∧ Reads w sz A n (xs.flatMap toC) ∧ (∀ x ∈ xs, ok x ∧ (toC x).length = sz) ∧ n ≤ c ∧ c ≤ maxLen := by
  rcases open_slice ht h with ⟨rfl, _⟩ | ⟨a, len, cap, m, n, D, Pl, rfl, _, hl, hm, hmm, _, hi⟩
  · exact ⟨none, 0, 0, [], rfl, rfl, Reads.nil_ _, (fun x hx => by cases hx), Nat.le_refl _, Nat.zero_le _⟩
  · have hlm : len ≤ m := by rw [hmm]; split <;> omega
    have hone : ∀ i, i < len → ∃ x : X, (ok x ∧ (toC x).length = sz) ∧ ∀ r u, (toC x)[r]? = some u → w.cell? (a.add (i * sz + r)) = some u := by
      intro i hil
      obtain ⟨cs', hc, ht'⟩ := hi i (by omega)
      obtain ⟨x, rfl, hx⟩ := hX _ _ _ ht'
      obtain ⟨_, hlen, hat⟩ := World.cells?_some hc
      rw [hC] at hlen hat
      refine ⟨x, ⟨hx, hlen⟩, fun r u hu => ?_⟩
      have hr : r < (toC x).length := (List.getElem?_eq_some_iff.1 hu).1
      have h1 := hat r (by omega)
      rw [Go.Deep.add_add] at h1
      rw [h1, hu]
    obtain ⟨f, hf⟩ := choose_lt hone
    have hmem : ∀ x ∈ (List.range len).map f, ok x ∧ (toC x).length = sz := by
      intro x hx
      obtain ⟨i, hi2, rfl⟩ := List.mem_map.1 hx
      exact (hf i (List.mem_range.1 hi2)).1
    refine ⟨some a, len, cap, (List.range len).map f, rfl, by simp, ⟨by rw [flatMap_len toC _ (fun x hx => (hmem x hx).2)]; simp, fun _ => ⟨a, rfl, fun j u hu => ?_⟩⟩, hmem, hl, hm⟩
    obtain ⟨i, r, x, h1, h2, rfl⟩ := flatMap_at toC _ (fun x hx => (hmem x hx).2) j u hu
    have hil : i < len := by have := (List.getElem?_eq_some_iff.1 h1).1; simpa using this
    simp [hil] at h1
    subst h1
    exact (hf i hil).2 r u h2
end

section
variable {H : Type} {enc : TypeId × Value → H} {P : Program} {w : World} {base : Nat} {spare : Nat → Bool} {held : Bool} {fuel : Nat} {t e : TypeId} {cs : List Value} {x : DataW H × List MemPlace}
/-- A struct that came in, field by field. -/
theorem open_struct {fs : Array Field} (ht : P.underlying t = some (.struct fs)) (h : DataW.trod enc P w base spare held fuel t cs = some x) : cs.length = P.cellsOf t ∧ ∃ m, ∀ (i : Nat) (f : Field), fs[i]? = some f → ∃ y, DataW.trod enc P w base spare held m f.type ((cs.drop f.offset).take (P.cellsOf f.type)) = some y := by
  obtain ⟨xs, m, _, _, hlen, hyl, hf⟩ := DataW.trod_struct ht h
  refine ⟨hlen, m, fun i f hi => ?_⟩
  have hil : i < xs.length := by rw [hyl]; exact (Array.getElem?_eq_some_iff.1 hi).1
  exact ⟨xs[i], by rw [hf i f hi, List.getElem?_eq_getElem hil]⟩
theorem open_slice_any (ht : P.underlying t = some (.slice e)) (h : DataW.trod enc P w base spare held fuel t cs = some x) : ∃ v, cs = [v] ∧ ∃ A n c, v = .slice A n c := by
  rcases open_slice ht h with ⟨rfl, _⟩ | ⟨a, len, cap, m, n, D, Pl, rfl, _⟩
  · exact ⟨_, rfl, _, _, _, rfl⟩
  · exact ⟨_, rfl, _, _, _, rfl⟩
theorem piece {cs : List Value} (a n b : Nat) (hb : a + n = b) : cs.drop a = (cs.drop a).take n ++ cs.drop b := by
  subst hb
  rw [← List.drop_drop, List.take_append_drop]
theorem piece_end {cs : List Value} {n : Nat} (h : cs.length = n) : cs.drop n = [] := List.drop_of_length_le (Nat.le_of_eq h)
end
theorem okWide_arr {P : Program} {w : World} {r : Reach} {base : Nat} {t e : TypeId} {n : Nat} {v : Value} (ht : P.underlying t = some (.array n e)) (h : Value.okWide P w r base t v) : ∃ cs, v = .agg cs := by
  simp only [Value.okWide, ht] at h
  obtain ⟨cs, h, _⟩ := h
  exact ⟨cs, h⟩
theorem okWide_str {P : Program} {w : World} {r : Reach} {base : Nat} {t : TypeId} {fs : Array Field} {v : Value} (ht : P.underlying t = some (.struct fs)) (h : Value.okWide P w r base t v) : ∃ cs, v = .agg cs := by
  simp only [Value.okWide, ht] at h
  obtain ⟨cs, h, _⟩ := h
  exact ⟨cs, h⟩
end Go.Proofs.Ytemhhhikopemmaa
