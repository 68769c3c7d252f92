/- The Reader's methods: contracts. -/
import Derived.Test.YtemhhhikopemmaaPkR
namespace Go.Proofs.Ytemhhhikopemmaa
open Go.RowKit
attribute [local go_sem ↓] Go.wp_at_zero Go.wp_at_succ

set_option maxHeartbeats 400000 in
theorem Fail_stop {w : World} {r : Nat} {s : Value} (h : Blk w r 111 #[s, .bool true]) (c : Int) (hc : (c == 0) = false) :
    Calls Try.prog 61 #[.pointer (some ⟨r, 0, none⟩), .int .i64 c] w fun e w' => e = .panicked [{ v := stopV c, recovered := false }] ∧ w = w' := by
  have c1 := h.cell 1
  simp at c1
  have hc' : ¬ c = 0 := by simpa using hc
  go_enter Try.func61, Try.ntmps61
  go_wp2
  exact ⟨rfl, rfl, rfl⟩

/-- What a take of bytes leaves. -/
structure Got (w : World) (r : Nat) (A : Option Addr) (rest : List Int) (k : Nat) (e : Ending) (w' : World) : Prop where
  ok : ∃ P cp, e = .returned (.slice P k cp) ∧ w'.ownsRow 0 5 1 (.slice P k cp) k (bytes (rest.take k)) ∧ ∀ g, blockOf P = some g → w.heap.size ≤ g
  rd : Next w' r A (rest.drop k)
  fr : Fr (fun g => g = r) w w'

/-- Bytes don't lie in a block that holds none. -/
theorem reads_ne {w : World} {A : Option Addr} {n g : Nat} {rest : List Int} {t : TypeId} {cs : Array Value} (h : Reads w 1 A n (bytes rest)) (hn : 0 < n) (hb : Blk w g t cs) (hc : ∀ u ∈ cs.toList, ∀ z, u ≠ .int .u8 z) : blockOf A ≠ some g := by
  intro e
  obtain ⟨ad, rfl, hce⟩ := h.2 hn
  have hl : 0 < (bytes rest).length := by rw [h.1]; omega
  have h0 := hce 0 _ (List.getElem?_eq_getElem hl)
  have hbk : ad.block = g := Option.some.inj e
  have hsp : ad.add 0 = ad := by simp [Addr.add]
  rw [hsp] at h0
  unfold Blk at hb
  unfold World.cell? at h0
  rw [hbk, hb] at h0
  simp only at h0
  split at h0
  · cases h0
  · have hu : (bytes rest)[0] = .int .u8 (rest[0]'(by simpa [bytes] using hl)) := by simp [bytes]
    rw [hu] at h0
    exact hc _ (by rw [← Array.getElem?_toList] at h0; exact List.mem_of_getElem? h0) _ rfl

theorem RdR.ne {w : World} {r : Nat} {A : Option Addr} {n cap : Nat} {rest : List Int} {live : Bool} (h : RdR w r A n cap rest live) (hn : 0 < n) : ∀ g, blockOf A = some g → g ≠ r := by
  rintro g hg rfl
  exact reads_ne h.reads hn h.blk (by intro u hu z; simp at hu; rcases hu with rfl | rfl <;> simp) hg

/-- A Reader where another block, of no bytes, is written. -/
theorem RdR.other {w : World} {r g : Nat} {A : Option Addr} {n cap : Nat} {rest : List Int} {live : Bool} {t : TypeId} {cs : Array Value} (h : RdR w r A n cap rest live) (hb : Blk w g t cs) (hc : ∀ u ∈ cs.toList, ∀ z, u ≠ .int .u8 z) (hgr : g ≠ r)
    {w' : World} (hf : Fr (fun k => k = g) w w') : RdR w' r A n cap rest live := by
  refine ⟨h.blk.fr hf (Ne.symm hgr), ?_, h.le, h.big⟩
  rcases Nat.eq_zero_or_pos n with h0 | h0
  · subst h0
    have : rest = [] := List.eq_nil_of_length_eq_zero (len_of_reads h.reads)
    rw [this]
    exact Reads.nil_ _
  · exact h.reads.fr hf (by
      rintro k hk rfl
      exact reads_ne h.reads h0 hb hc hk)

set_option maxRecDepth 100000 in
set_option maxHeartbeats 1600000 in
theorem RRaw_ok {w : World} {r : Nat} {A : Option Addr} {n cap : Nat} {rest : List Int} (h : RdR w r A n cap rest true) (k : Nat) (hk : k ≤ n) (hbig : n ≤ 70368744177664) :
    Calls Try.prog 54 #[.pointer (some ⟨r, 0, none⟩), .int .i64 k] w (Got w r A rest k) := by
  obtain ⟨i0, hi0, hz0, hz1, hz2⟩ := info_parts Try.info5
  have c0 := h.blk.cell 0
  have c1 := h.blk.cell 1
  have f0 := h.blk.frozen 0
  have hrw := h.blk.lt
  simp at c0 c1
  have hki : (k : Int) ≤ (n : Int) := by omega
  have hle := h.le
  have hkc : (k : Int) ≤ (cap : Int) := by omega
  have hnc : (n : Int) ≤ (cap : Int) := by omega
  have hcut := h.reads.cut hk h.le
  rw [Nat.mul_one, show (bytes rest).drop k = bytes (rest.drop k) from by simp [bytes]] at hcut
  have htk := h.reads.take hk
  rw [Nat.mul_one, show (bytes rest).take k = bytes (rest.take k) from by simp [bytes]] at htk
  have hAr : ∀ g, blockOf (if cap = k then A else A.map (·.add k)) = some g → blockOf A = some g := by
    intro g hg
    split at hg
    · exact hg
    · cases A with
      | none => cases hg
      | some ad => simpa [blockOf, add_block] using hg
  obtain ⟨A2, hA2⟩ : ∃ A2 : Option Addr, A2 = (if cap = k then A else A.map (·.add k)) := ⟨_, rfl⟩
  rw [← hA2] at hcut hAr
  have hsl : ∀ W, (Instr.slice 23 (.slice A n cap) (some (.int .i64 k)) none none).run Try.prog W = .ok (.slice A2 (n - k) (cap - k)) W := by
    intro W
    have hi : i0.size = 1 := hz1
    rw [hA2]
    simp [Instr.slice, Instr.sliceBounds, Instr.sliceBound, run_underlying Try.underlying23, asIntOf, sizeOf, typeInfo, hi0, hi, hki, hk]
  clear hA2
  go_enter Try.func54, Try.ntmps54
  go_wp2_with (at_builtin; refine wpList_app _ rfl (.tmp 28) (.tmp 34) 23 rfl 5 i0 (.int .u8 0) 1 1 Try.underlying23 hi0 hz0 hz1 hz2 rfl (by omega) (.slice (some ⟨w.heap.size, 0, none⟩) 0 0) 0 [] rfl (own_empty _ _ _ _ rfl) A k cap (bytes (rest.take k)) rfl (htk.fr ((Fr.refl Nil w).alloc _) (fun _ _ e => e)) (one_bytes _) (by unfold maxLen; omega) (by omega) ?_; intro v2 w2 hown2 hg2 hat2; obtain ⟨V2, cp2, rfl⟩ := own_form hown2; rw [Nat.zero_add] at hown2 hat2; have hF2 : Fr Nil w w2 := ((Fr.refl Nil w).alloc _).grown hg2 (by intro k hk hlt; simp [Value.ownBlock] at hk; omega); have hB2 := h.blk.fr hF2 (fun e => e); have d0 := hB2.cell 0; have d1 := hB2.frozen 0; simp at d0)
  go_ret
  have hfresh : ∀ g, (Value.slice V2 k cp2).ownBlock = some g → w.heap.size ≤ g := by
    intro g hg
    rcases hat2 with e | e <;> rw [e] at hg <;> simp [Value.ownBlock] at hg <;> omega
  have hFr : Fr (fun g => g = r) w2 (w2.setCell ⟨r, 0, none⟩ (.slice A2 (n - k) (cap - k))) := (Fr.refl (fun g => g = r) w2).setCell (.inr rfl) _
  refine ⟨⟨V2, cp2, rfl, own_fr (by simpa using hown2) hFr (fun g hg e => by have := hfresh g hg; omega), fun g hg => hfresh g (own_of_blockOf hg)⟩, ⟨A2, n - k, cap - k, ⟨?_, ?_, by omega, by have := h.big; omega⟩, hAr⟩, (hF2.mono (fun _ _ e => False.elim e)).trans hFr (fun _ _ e => e)⟩
  · have := hB2.set_ 0 (.slice A2 (n - k) (cap - k))
    simpa using this
  · rcases Nat.eq_zero_or_pos (n - k) with h0 | h0
    · rw [h0]
      have hnil : rest.drop k = [] := List.eq_nil_of_length_eq_zero (by have := len_of_reads h.reads; simp; omega)
      rw [hnil]
      exact Reads.nil_ _
    · exact (hcut.fr hF2 (fun _ _ e => e)).fr hFr (fun g hg e => h.ne (by omega) g (hAr g hg) e)

set_option maxHeartbeats 800000 in
theorem RRaw_short {w : World} {r : Nat} {A : Option Addr} {n cap : Nat} {rest : List Int} (h : RdR w r A n cap rest true) (k : Int) (hk : k < 0 ∨ (n : Int) < k) :
    Calls Try.prog 54 #[.pointer (some ⟨r, 0, none⟩), .int .i64 k] w fun e w' => e = .panicked [{ v := stopV 3, recovered := false }] ∧ w = w' := by
  have c0 := h.blk.cell 0
  have c1 := h.blk.cell 1
  simp at c0 c1
  by_cases hk0 : k < 0
  all_goals
    go_enter Try.func54, Try.ntmps54
    go_wp2_with (go_at_call 61; refine (Fail_stop h.blk 3 rfl).mono ?_; rintro e w' ⟨rfl, rfl⟩)
    exact ⟨rfl, rfl, rfl⟩

set_option maxRecDepth 100000 in
set_option maxHeartbeats 1600000 in
theorem RUint_ok {w : World} {r : Nat} {A : Option Addr} {n cap : Nat} {rest : List Int} (h : RdR w r A n cap rest true) (hb : IsBytes rest) (k : Nat) (hk8 : k ≤ 8) (hk : k ≤ n) (hbig : n ≤ 70368744177664) :
    Calls Try.prog 52 #[.pointer (some ⟨r, 0, none⟩), .int .i64 k] w fun e w' => e = .returned (.int .u64 (leV (rest.take k))) ∧ Next w' r A (rest.drop k) ∧ Fr (fun g => g = r) w w' := by
  have hk8i : (k : Int) ≤ 8 := by omega
  go_enter Try.func52, Try.ntmps52
  go_wp2_with (go_at_call 54; refine (RRaw_ok h k hk hbig).mono ?_; rintro e w1 ⟨⟨P, cp, rfl, hown, hfr⟩, hR1, hF1⟩)
  have htl : (rest.take k).length = k := by have := len_of_reads h.reads; simp; omega
  have htb : IsBytes (rest.take k) := hb.take k
  obtain ⟨xs, hxs⟩ : ∃ xs, xs = rest.take k := ⟨_, rfl⟩
  rw [← hxs] at htl htb hown
  have HX := Lib.hid hxs
  clear hxs
  go_loop [14, 5] (fun q v => ∃ j : Nat, j ≤ k ∧ q = .int .i64 j ∧ v = .int .u64 (leV (xs.take j))) (fun q _ => k - (intOf q).toNat)
  case atStart => exact ⟨0, Nat.zero_le _, rfl, rfl⟩
  case round =>
    obtain ⟨j, hj, rfl, rfl⟩ := hrel
    by_cases hlt : j < k
    · obtain ⟨g, cp', hv, _, _⟩ := hown.form (by omega)
      injection hv with hv1 hv2 hv3
      subst hv1 hv3
      have hxl : j < xs.length := by omega
      have e0 := hown.cellAt j (by omega)
      rw [show (bytes xs)[j]? = some (.int .u8 xs[j]) from by simp [bytes, hxl]] at e0
      have hlti : (j : Int) < (k : Int) := by omega
      have hkp : (0 : Int) ≤ (j : Int) := by omega
      have hj7 : (j : Int) ≤ 7 := by omega
      have hx0 : 0 ≤ xs[j] := (htb _ (List.getElem_mem hxl)).1
      have hx1 : xs[j] ≤ 255 := by have := (htb _ (List.getElem_mem hxl)).2; omega
      have hst := or_step htb j hxl (by omega)
      have HST := Lib.hid hst
      clear hst
      go_wp2
      go_round
      case rel => exact ⟨j + 1, by omega, by go_num, by rw [HST.out]⟩
      case measure => simp [intOf]; omega
    · obtain rfl : k = j := by omega
      go_wp2
      go_ret
      exact ⟨by rw [← HX.out, ← htl]; simp, hR1, hF1⟩

theorem RUint_short {w : World} {r : Nat} {A : Option Addr} {n cap : Nat} {rest : List Int} (h : RdR w r A n cap rest true) (k : Nat) (hk8 : k ≤ 8) (hk : n < k) :
    Calls Try.prog 52 #[.pointer (some ⟨r, 0, none⟩), .int .i64 k] w fun e w' => e = .panicked [{ v := stopV 3, recovered := false }] ∧ w = w' := by
  have hk8i : (k : Int) ≤ 8 := by omega
  go_enter Try.func52, Try.ntmps52
  go_wp2_with (go_at_call 54; refine (RRaw_short h k (.inr (by omega))).mono ?_; rintro e w1 ⟨rfl, rfl⟩)
  exact ⟨rfl, rfl, rfl⟩

set_option maxHeartbeats 800000 in
/-- A number up to another one: the bytes are there. -/
theorem RCount_ok {w : World} {r : Nat} {A : Option Addr} {n cap : Nat} {rest : List Int} (h : RdR w r A n cap rest true) (hb : IsBytes rest) (k : Nat) (hk8 : k ≤ 8) (hk : k ≤ n) (hbig : n ≤ 70368744177664) (most : Int) (hm : leV (rest.take k) ≤ most) :
    Calls Try.prog 53 #[.pointer (some ⟨r, 0, none⟩), .int .i64 k, .int .u64 most] w fun e w' => e = .returned (.int .i64 (wrap64 (leV (rest.take k)))) ∧ Next w' r A (rest.drop k) ∧ Fr (fun g => g = r) w w' := by
  have hm' : decide (most < leV (rest.take k)) = false := by simp; omega
  clear hm
  go_enter Try.func53, Try.ntmps53
  go_wp2_with (go_at_call 52; refine (RUint_ok h hb k hk8 hk hbig).mono ?_; rintro e w1 ⟨rfl, hR1, hF1⟩)
  go_ret
  exact ⟨rfl, hR1, hF1⟩

set_option maxHeartbeats 800000 in
theorem RCount_range {w : World} {r : Nat} {A : Option Addr} {n cap : Nat} {rest : List Int} (h : RdR w r A n cap rest true) (hb : IsBytes rest) (k : Nat) (hk8 : k ≤ 8) (hk : k ≤ n) (hbig : n ≤ 70368744177664) (most : Int) (hm : most < leV (rest.take k)) :
    Calls Try.prog 53 #[.pointer (some ⟨r, 0, none⟩), .int .i64 k, .int .u64 most] w fun e w' => e = .panicked [{ v := stopV 6, recovered := false }] ∧ Next w' r A (rest.drop k) ∧ Fr (fun g => g = r) w w' := by
  go_enter Try.func53, Try.ntmps53
  go_wp2_with (first | (go_at_call 52; refine (RUint_ok h hb k hk8 hk hbig).mono ?_; rintro e w1 ⟨rfl, ⟨A1, n1, c1, hR1, hA1⟩, hF1⟩) | (go_at_call 61; refine (Fail_stop hR1.blk 6 rfl).mono ?_; rintro e w' ⟨rfl, rfl⟩))
  exact ⟨rfl, rfl, ⟨A1, n1, c1, hR1, hA1⟩, hF1⟩

end Go.Proofs.Ytemhhhikopemmaa
