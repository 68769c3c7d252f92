import Derived.Test.YthlflbmhdabfeaaNet7
namespace Go.Proofs.Ythlflbmhdabfeaa
open Go.RowKit

/-- The net behind k Sends of empty letters. -/
def FullR (w : World) (b k : Nat) (wr : World) : Prop :=
  ∃ v ls, NetR wr b v ls ((min k 4096 : Nat) : Int) 0 ((k - 4096 : Nat) : Int) ∧ ls.length = min k 4096 ∧ (∀ x ∈ ls, x.m = 0) ∧ Fr Nil w wr ∧ (∀ g, v.ownBlock = some g → w.heap.size ≤ g)

theorem full_ok {w wr wr' : World} {b k m : Nat} {v : Value} {ls : List Lt} {s c l f t : Int} {bs : List Int} {e : Ending} (hb : w.heap.size ≤ b) (hk : k < 4096) (hl : ls.length = min k 4096) (hm : ∀ x ∈ ls, x.m = 0) (hF : Fr Nil w wr)
    (hv : ∀ g, v.ownBlock = some g → w.heap.size ≤ g) (hs : s = ((min k 4096 : Nat) : Int)) (hc : c = 0) (hll : l = ((k - 4096 : Nat) : Int)) (hm0 : m = 0) (h : Sent wr b v ls s c l f t m bs e wr') : FullR w b (k + 1) wr' := by
  obtain ⟨_, hF', v', A, cap, hN, hM, _⟩ := h
  subst hs hc hll hm0
  refine ⟨v', ls ++ [⟨f, t, A, 0, cap, bs⟩], ?_, by rw [List.length_append, hl]; simp only [List.length_singleton]; omega, ?_, hF.trans hF' ?_, ?_⟩
  · have e1 : ((min k 4096 : Nat) : Int) + 1 = ((min (k + 1) 4096 : Nat) : Int) := by omega
    have e2 : ((k - 4096 : Nat) : Int) = ((k + 1 - 4096 : Nat) : Int) := by omega
    rw [← e1, ← e2]
    exact hN
  · intro x hx
    rcases List.mem_append.1 hx with h | h
    · exact hm x h
    · simp at h
      rw [h]
  · rintro q hq (rfl | h)
    · omega
    · have := hv q h
      omega
  · intro g hg
    rcases hM g hg with h | h
    · exact hv g h
    · exact Nat.le_trans hF.size h

theorem full_more {w wr wr' : World} {b k : Nat} {v : Value} {ls : List Lt} (hb : w.heap.size ≤ b) (hk : 4096 ≤ k) (hl : ls.length = min k 4096) (hm : ∀ x ∈ ls, x.m = 0) (hF : Fr Nil w wr)
    (hv : ∀ g, v.ownBlock = some g → w.heap.size ≤ g) (hF' : Fr (NetS b v) wr wr') (hN : NetR wr' b v ls ((min k 4096 : Nat) : Int) 0 (((k - 4096 : Nat) : Int) + 1)) : FullR w b (k + 1) wr' := by
  refine ⟨v, ls, ?_, by omega, hm, hF.trans hF' ?_, hv⟩
  · have e1 : ((min k 4096 : Nat) : Int) = ((min (k + 1) 4096 : Nat) : Int) := by omega
    have e2 : ((k - 4096 : Nat) : Int) + 1 = ((k + 1 - 4096 : Nat) : Int) := by omega
    rw [← e1, ← e2]
    exact hN
  · rintro q hq (rfl | h)
    · omega
    · have := hv q h
      omega

set_option maxRecDepth 100000 in
set_option maxHeartbeats 1600000 in
theorem Full_any (a : Int) (ha0 : 0 ≤ a) (ha1 : a ≤ 255) (w : World) : Calls Try.prog 3 #[.int .u8 a] w fun e w' => e = .returned (.bool true) ∧ Fr Nil w w' := by
  have hr0 : 0 ≤ a % 12 := by omega
  have hr1 : a % 12 < 12 := by omega
  go_enter Try.func3, Try.ntmps3
  go_wp2_with (first | (go_at_call 6; refine (Awake_any _).mono ?_; rintro e w1 ⟨rfl, hF1⟩) | (go_at_call 7; refine (New_any _).mono ?_; rintro e w2 ⟨rfl, rfl⟩))
  obtain ⟨M, hM⟩ : ∃ M : Nat, (M : Int) = 4090 + a % 12 := ⟨(4090 + a % 12).toNat, by omega⟩
  rw [← hM]
  have hM0 : 4090 ≤ M := by omega
  have hM1 : M ≤ 4101 := by omega
  clear hM hr0 hr1
  have hb0 := hF1.size
  generalize hb : w1.heap.size = b at *
  have hstart : FullR w b 0 (w1.alloc (.cells #[.slice none 0 0, .int .i64 0, .int .i64 0, .int .i64 0] 46)) := by
    have hn := net_new w1
    rw [hb] at hn
    exact ⟨_, _, hn, rfl, fun x hx => (by cases hx), hF1.alloc _, fun g hg => (by cases hg)⟩
  generalize w1.alloc (.cells #[.slice none 0 0, .int .i64 0, .int .i64 0, .int .i64 0] 46) = W0 at *
  have HS := Lib.hid hstart
  clear hstart hb
  go_loopw [16] (fun i wr => ∃ k : Nat, k ≤ M ∧ i = .int .i64 k ∧ FullR w b k wr) (fun i _ => M - (intOf i).toNat)
  case atStart => exact ⟨0, Nat.zero_le _, rfl, HS.out⟩
  case round =>
    obtain ⟨k, hk, rfl, v, ls, hN, hl, hm, hF, hv⟩ := hrel
    have HL := Lib.hid hl
    have hn0 : ls.length ≤ 4096 := by omega
    by_cases hlt : k < M
    · by_cases h4 : k < 4096
      · have hn1 : ls.length < 4096 := by omega
        clear hl
        go_wp2_with (go_at_call 8; refine (Send_ok _ _ _ _ _ _ 0 1 none 0 0 [] _ hN (Reads.nil_ none) (by decide) (by decide) (by decide) (by omega) hn1 (by omega) (by omega) (by omega)).mono ?_; rintro e wr' hs; have he := hs.ok; subst he)
        go_roundw
        case rel => exact ⟨k + 1, by omega, by go_num, full_ok hb0 h4 HL.out hm hF hv rfl rfl rfl rfl hs⟩
        case measure => simp [intOf]; omega
      · have hn1 : ls.length = 4096 := by omega
        have h4' : 4096 ≤ k := by omega
        have HN := Lib.hid hn1
        clear hl hn1
        go_wp2_with (go_at_call 8; refine (Send_full hN 0 1 none 0 0 (by decide) (by decide) (by decide) (by decide) (by decide) (by omega) HN.out (by omega) (by omega)).mono ?_; rintro e wr' ⟨rfl, hF', hN'⟩)
        go_roundw
        case rel => exact ⟨k + 1, by omega, by go_num, full_more hb0 h4' HL.out hm hF hv hF' hN'⟩
        case measure => simp [intOf]; omega
    · obtain rfl : k = M := by omega
      clear hl
      have hpos : 0 < ls.length := by have := HL.out; omega
      have hx : ls[0]? = some ls[0] := List.getElem?_eq_getElem hpos
      have hxm : ls[0].m = 0 := hm _ (List.getElem_mem hpos)
      have hxm' : ls[0].m ≤ 1048576 := by omega
      clear hxm
      obtain ⟨i0, hi0, hz0, hz1, hz2⟩ := info_parts Try.info5
      obtain ⟨BIG, hmk⟩ : ∃ C, ∀ w : World, (Instr.makeSlice 27 (.int .i64 1048577) (.int .i64 1048577)).run Try.prog w = .ok (.slice (some ⟨w.heap.size, 0, none⟩) 1048577 1048577) (w.alloc (.cells C 5)) :=
        ⟨_, fun w => by
          have h := run_make (P := Try.prog) w 27 5 i0 _ Try.underlying27 hi0 hz0 .i64 .i64 1048577 1048577 (by decide) (by decide) (by rw [hz2]; decide) (by decide)
          exact h⟩
      clear hi0 hz0 hz1 hz2
      have hx0 : (0 : Int) = ((0 : Nat) : Int) := rfl
      by_cases h4 : 4096 ≤ k
      · have hn1 : ls.length = 4096 := by have := HL.out; omega
        have hlen : ∀ W, Fr Nil wr W → Calls Try.prog 10 #[.pointer (some ⟨b, 0, none⟩)] W fun e w' => e = .returned (.int .i64 4096) ∧ W = w' := by
          intro W hW
          have h := (hN.nil hW).len
          rw [hn1] at h
          exact h
        have HN := Lib.hid hn1
        clear hn1 hx0
        have h4i : (4096 : Int) ≤ (k : Int) := by omega
        go_wp2_with (first | (go_at_call 9; refine (Double_full hN 0 _ hx HN.out hxm').mono ?_; rintro e w3 ⟨rfl, hF3⟩) | (go_at_call 10; refine (hlen _ (by assumption)).mono ?_; rintro e w' ⟨rfl, rfl⟩) | (go_at_call 8; refine (Send_long _ 1 2 _ _ _ _ (by decide) (by decide) (by decide) (by decide) (by decide) (by decide) (by decide)).mono ?_; rintro e w5 ⟨rfl, hF5⟩))
        go_ret
        refine ⟨ret_bool (by simp), ?_⟩
        have q := hF.trans hF3 (fun _ _ e => e)
        exact (q.alloc _).trans hF5 (fun _ _ e => e)
      · have hn1 : ls.length < 4096 := by have := HL.out; omega
        have hlen : ∀ (W : World) (v' : Value) (c : Nat) (s l : Int) (A : Option Addr), NetR W b v' (ls ++ [⟨ls[0].f, ls[0].t, A, ls[0].m, c, ls[0].bs⟩]) s 0 l → Calls Try.prog 10 #[.pointer (some ⟨b, 0, none⟩)] W fun e w' => e = .returned (.int .i64 (k + 1)) ∧ W = w' := by
          intro W v' c s l A hW
          have h := hW.len
          have e : ((ls ++ [(⟨ls[0].f, ls[0].t, A, ls[0].m, c, ls[0].bs⟩ : Lt)]).length : Int) = (k : Int) + 1 := by
            rw [List.length_append, List.length_singleton]
            have := HL.out
            omega
          rw [e] at h
          exact h
        have h4i : (k : Int) < 4096 := by omega
        have h4j : (k : Int) + 1 ≤ 4096 := by omega
        clear h4
        have hmin : (k : Int) + 1 = min ((k : Int) + 1) 4096 := by omega
        have HM := Lib.hid hmin
        clear hmin hx0
        go_wp2_with (first | (go_at_call 9; refine (Double_some hN 0 _ hx hn1 hxm').mono ?_; rintro e w3 ⟨rfl, hF3, v3, A3, c3, hN3, hM3, _⟩) | (go_at_call 10; refine (hlen _ _ _ _ _ _ (by assumption)).mono ?_; rintro e w' ⟨rfl, rfl⟩) | (go_at_call 8; refine (Send_long _ 1 2 _ _ _ _ (by decide) (by decide) (by decide) (by decide) (by decide) (by decide) (by decide)).mono ?_; rintro e w5 ⟨rfl, hF5⟩))
        go_ret
        refine ⟨ret_bool (by simp; omega), ?_⟩
        have q : Fr Nil w w3 := hF.trans hF3 (by
          rintro g hg (rfl | h)
          · omega
          · have := hv g h
            omega)
        exact (q.alloc _).trans hF5 (fun _ _ e => e)

end Go.Proofs.Ythlflbmhdabfeaa
