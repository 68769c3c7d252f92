/- Texts and arrays: the Writer's Text, the Reader's Long, Text, Seed, Id, Left. -/
import Derived.Test.YtinomilmccopnaaPkM
namespace Go.Proofs.Ytinomilmccopnaa
open Go.RowKit
attribute [local go_sem ↓] Go.wp_at_zero Go.wp_at_succ

/-- A text's bytes. -/
def strB (s : ByteArray) : List Int := s.data.toList.map fun b => (b.toNat : Int)
theorem strB_len (s : ByteArray) : (strB s).length = s.size := by simp [strB]
theorem strB_bytes (s : ByteArray) : IsBytes (strB s) := by
  intro x hx
  obtain ⟨b, _, rfl⟩ := List.mem_map.1 hx
  have := b.toNat_lt
  omega
theorem strB_nums {bs : List Int} (h : IsBytes bs) : strB (strOfNums bs) = bs := by
  simp only [strB, strOfNums_data, List.map_map]
  conv => rhs; rw [← List.map_id bs]
  apply List.map_congr_left
  intro x hx
  obtain ⟨h0, h1⟩ := h x hx
  simp only [Function.comp, UInt8.toNat_ofNat', id]
  omega
theorem strB_take (s : ByteArray) (k : Nat) (hk : k ≤ s.size) : strB (s.extract 0 k) = (strB s).take k := by
  simp [strB, List.map_take]

theorem reads_row (w : World) (s : ByteArray) (c : Nat) : Reads (w.alloc (.cells (bytesRow s c) 5 ((bytesRow s c).size, (bytesRow s c).size + 1))) 1 (some ⟨w.heap.size, 0, none⟩) s.size (bytes (strB s)) := by
  refine ⟨by simp [bytes, strB_len], fun _ => ⟨_, rfl, fun j u hu => ?_⟩⟩
  have hj : j < s.data.size := by
    have := (List.getElem?_eq_some_iff.1 hu).1
    simpa [bytes, strB] using this
  rw [add_none, Nat.zero_add, World.cell?_alloc_mark, bytesRow_at s c j hj]
  simp [bytes, strB, hj] at hu
  obtain ⟨q, hq, rfl⟩ := hu
  rw [Array.getElem?_eq_getElem hj] at hq
  injection hq with hq
  rw [hq]

set_option maxHeartbeats 1600000 in
theorem WText_any {w : World} {b : Nat} {v : Value} {bs : List Int} (h : WrR w b v bs) (s : ByteArray) (hs : s.size ≤ 1099511627776) (hm : bs.length ≤ 35184372088832) :
    Calls Try.prog 51 #[.pointer (some ⟨b, 0, none⟩), .string s] w (Put w b v bs (((min s.size 255 : Nat) : Int) :: (strB s).take 255)) := by
  have HM := Lib.hid hm
  clear hm
  by_cases h5 : s.size ≤ 255
  · have h5i : (s.size : Int) ≤ 255 := by omega
    have hs0 : (0 : Int) ≤ (s.size : Int) := by omega
    have hR1 := h.nil ((Fr.refl Nil w).alloc (.cells #[.int .u8 (s.size : Int)] 5))
    have hr1 : Reads (w.alloc (.cells #[.int .u8 (s.size : Int)] 5)) 1 (some ⟨w.heap.size, 0, none⟩) 1 (bytes [(s.size : Int)]) := Reads.of_blk (Blk.new w _ _) rfl
    have hF0 : Fr Nil w (w.alloc (.cells #[.int .u8 (s.size : Int)] 5)) := (Fr.refl Nil w).alloc _
    go_enter Try.func51, Try.ntmps51
    go_wp2_with fail
    refine (WRaw_any hR1 hr1 (by have := HM.out; omega)).mono ?_
    rintro e w2 ⟨rfl, hF2, v2, hR2, hM2⟩
    have hcv := run_bytes_of_string (P := Try.prog) w2 9 40 5 (s) Try.underlying9 Try.underlying40 Try.underlying5
    generalize grownCap w2 (s).size 0 5 = gc at hcv
    go_wp2_with fail
    have hrd := reads_row w2.drew (s) gc
    have hR2' := hR2.nil (((Fr.refl Nil w2).drew).alloc (.cells (bytesRow (s) gc) 5 ((bytesRow (s) gc).size, (bytesRow (s) gc).size + 1)))
    have hF2' : Fr Nil w2 (w2.drew.alloc (.cells (bytesRow (s) gc) 5 ((bytesRow (s) gc).size, (bytesRow (s) gc).size + 1))) := ((Fr.refl Nil w2).drew).alloc _
    refine (WRaw_any hR2' hrd (by have := HM.out; simp; omega)).mono ?_
    rintro e w3 ⟨rfl, hF3, v3, hR3, hM3⟩
    go_wp2
    go_end0
    have hNk : ∀ k, NetS b v2 k → k < w.heap.size → NetS b v k := fun k hk hlt => step_own (w := w) (fun g hg => (hM2 g hg).imp id (fun h => Nat.le_trans hF0.size h)) k hlt hk
    refine ⟨rfl, ((hF0.mono (fun _ _ e => False.elim e)).trans hF2 (fun _ _ e => e)).trans (hF2'.mono (fun _ _ e => False.elim e) |>.trans hF3 (fun _ _ e => e)) (fun k hk e => hNk k e hk), v3, ?_, fun g hg => ?_⟩
    · rw [Nat.min_eq_left h5, List.take_of_length_le (by rw [strB_len]; exact h5)]; simpa using hR3
    · rcases hM3 g hg with h1 | h1
      · rcases hM2 g h1 with h2 | h2
        · exact .inl h2
        · exact .inr (Nat.le_trans hF0.size h2)
      · exact .inr (Nat.le_trans hF0.size (Nat.le_trans hF2.size (Nat.le_trans hF2'.size h1)))
  · have h5i : (255 : Int) < (s.size : Int) := by omega
    have hx : (s.extract 0 255).size = 255 := by simp; omega
    have hR1 := h.nil ((Fr.refl Nil w).alloc (.cells #[.int .u8 255] 5))
    have hr1 : Reads (w.alloc (.cells #[.int .u8 255] 5)) 1 (some ⟨w.heap.size, 0, none⟩) 1 (bytes [255]) := Reads.of_blk (Blk.new w _ _) rfl
    have hF0 : Fr Nil w (w.alloc (.cells #[.int .u8 255] 5)) := (Fr.refl Nil w).alloc _
    go_enter Try.func51, Try.ntmps51
    go_wp2_with fail
    refine (WRaw_any hR1 hr1 (by have := HM.out; omega)).mono ?_
    rintro e w2 ⟨rfl, hF2, v2, hR2, hM2⟩
    have hcv := run_bytes_of_string (P := Try.prog) w2 9 40 5 (s.extract 0 255) Try.underlying9 Try.underlying40 Try.underlying5
    generalize grownCap w2 (s.extract 0 255).size 0 5 = gc at hcv
    go_wp2_with fail
    have hrd := reads_row w2.drew (s.extract 0 255) gc
    rw [hx] at hrd
    have hR2' := hR2.nil (((Fr.refl Nil w2).drew).alloc (.cells (bytesRow (s.extract 0 255) gc) 5 ((bytesRow (s.extract 0 255) gc).size, (bytesRow (s.extract 0 255) gc).size + 1)))
    have hF2' : Fr Nil w2 (w2.drew.alloc (.cells (bytesRow (s.extract 0 255) gc) 5 ((bytesRow (s.extract 0 255) gc).size, (bytesRow (s.extract 0 255) gc).size + 1))) := ((Fr.refl Nil w2).drew).alloc _
    refine (WRaw_any hR2' hrd (by have := HM.out; simp; omega)).mono ?_
    rintro e w3 ⟨rfl, hF3, v3, hR3, hM3⟩
    go_wp2
    go_end0
    have hNk : ∀ k, NetS b v2 k → k < w.heap.size → NetS b v k := fun k hk hlt => step_own (w := w) (fun g hg => (hM2 g hg).imp id (fun h => Nat.le_trans hF0.size h)) k hlt hk
    refine ⟨rfl, ((hF0.mono (fun _ _ e => False.elim e)).trans hF2 (fun _ _ e => e)).trans (hF2'.mono (fun _ _ e => False.elim e) |>.trans hF3 (fun _ _ e => e)) (fun k hk e => hNk k e hk), v3, ?_, fun g hg => ?_⟩
    · rw [Nat.min_eq_right (by omega)]; have := strB_take s 255 (by omega); rw [this] at hR3; simpa using hR3
    · rcases hM3 g hg with h1 | h1
      · rcases hM2 g h1 with h2 | h2
        · exact .inl h2
        · exact .inr (Nat.le_trans hF0.size h2)
      · exact .inr (Nat.le_trans hF0.size (Nat.le_trans hF2.size (Nat.le_trans hF2'.size h1)))

/-- A take that ends the reading. -/
structure Ended (w : World) (r : Nat) (c : Int) (e : Ending) (w' : World) : Prop where
  ok : e = .panicked [{ v := stopV c, recovered := false }]
  blk : ∃ s, Blk w' r 106 #[s, .bool true]
  fr : Fr (fun g => g = r) w w'

theorem RUint_ended {w : World} {r : Nat} {A : Option Addr} {n cap : Nat} {rest : List Int} (h : RdR w r A n cap rest true) (k : Nat) (hk8 : k ≤ 8) (hk : n < k) :
    Calls Try.prog 46 #[.pointer (some ⟨r, 0, none⟩), .int .i64 k] w (Ended w r 3) :=
  (RUint_short h k hk8 hk).mono fun e w' ⟨h1, h2⟩ => by subst h2; exact ⟨h1, ⟨_, h.blk⟩, Fr.refl _ _⟩
theorem RRaw_ended {w : World} {r : Nat} {A : Option Addr} {n cap : Nat} {rest : List Int} (h : RdR w r A n cap rest true) (k : Int) (hk : k < 0 ∨ (n : Int) < k) :
    Calls Try.prog 32 #[.pointer (some ⟨r, 0, none⟩), .int .i64 k] w (Ended w r 3) :=
  (RRaw_short h k hk).mono fun e w' ⟨h1, h2⟩ => by subst h2; exact ⟨h1, ⟨_, h.blk⟩, Fr.refl _ _⟩

set_option maxRecDepth 100000 in
set_option maxHeartbeats 800000 in
theorem RLong_ok {w : World} {r : Nat} {A : Option Addr} {n cap : Nat} {rest : List Int} (h : RdR w r A n cap rest true) (hb : IsBytes rest) (hbig : n ≤ 70368744177664) (most : Int) (hmw : most ≤ 9223372036854775807) (h4 : 4 ≤ n) (N : Nat) (hN : leV (rest.take 4) = N) (hm : (N : Int) ≤ max most 0) (hl : N + 4 ≤ n) :
    Calls Try.prog 37 #[.pointer (some ⟨r, 0, none⟩), .int .i64 most] w fun e w' =>
      (∃ P cp, e = .returned (.slice P N cp) ∧ w'.ownsRow 0 5 1 (.slice P N cp) N (bytes ((rest.drop 4).take N)) ∧ ∀ g, blockOf P = some g → w.heap.size ≤ g) ∧ Next w' r A ((rest.drop 4).drop N) ∧ Fr (fun g => g = r) w w' := by
  have hlt : (N : Int) < 4294967296 := by
    have := (leV_lt (hb.take 4)).2
    rw [hN] at this
    have hlen : (rest.take 4).length ≤ 4 := List.length_take_le _ _
    have : (2 : Int) ^ (8 * (rest.take 4).length) ≤ 4294967296 := by
      match hq : (rest.take 4).length, hlen with
      | 0, _ => decide
      | 1, _ => decide
      | 2, _ => decide
      | 3, _ => decide
      | 4, _ => decide
    omega
  have HL := Lib.hid hl
  have HW := Lib.hid hmw
  have HB := Lib.hid hbig
  clear hl hmw hbig
  by_cases h0 : 0 ≤ most
  · have hd : decide (most < (N : Int)) = false := by simp; omega
    have hw1 : IntKind.u64.wrap most = most := by rw [IntKind.wrap_u64]; have := HW.out; omega
    go_enter Try.func37, Try.ntmps37
    go_wp2_with fail
    refine (RUint_ok h hb 4 (by decide) h4 HB.out).mono ?_
    rintro e w1 ⟨rfl, ⟨A1, n1, c1, hR1, hA1⟩, hF1⟩
    rw [hN]
    have hn1 : n1 + 4 = n := by have h1 := len_of_reads hR1.reads; have h2 := len_of_reads h.reads; simp at h1; omega
    have HN1 := Lib.hid hn1
    clear hn1
    go_wp2_with fail
    refine (RRaw_ok hR1 N (by have := HN1.out; have := HL.out; omega) (by have := HB.out; have := HN1.out; omega)).mono ?_
    rintro e w2 ⟨⟨P, cp, rfl, hO, hfr⟩, hR2, hF2⟩
    go_wp2
    go_ret
    exact ⟨⟨P, cp, rfl, hO, fun g hg => Nat.le_trans hF1.size (hfr g hg)⟩, hR2.up hA1, hF1.trans hF2 (fun _ _ e => e)⟩
  · obtain rfl : N = 0 := by omega
    go_enter Try.func37, Try.ntmps37
    go_wp2_with fail
    refine (RUint_ok h hb 4 (by decide) h4 HB.out).mono ?_
    rintro e w1 ⟨rfl, ⟨A1, n1, c1, hR1, hA1⟩, hF1⟩
    rw [hN]
    have hn1 : n1 + 4 = n := by have h1 := len_of_reads hR1.reads; have h2 := len_of_reads h.reads; simp at h1; omega
    have HN1 := Lib.hid hn1
    clear hn1
    go_wp2_with fail
    refine (RRaw_ok hR1 0 (by have := HN1.out; have := HL.out; omega) (by have := HB.out; have := HN1.out; omega)).mono ?_
    rintro e w2 ⟨⟨P, cp, rfl, hO, hfr⟩, hR2, hF2⟩
    go_wp2
    go_ret
    exact ⟨⟨P, cp, rfl, hO, fun g hg => Nat.le_trans hF1.size (hfr g hg)⟩, hR2.up hA1, hF1.trans hF2 (fun _ _ e => e)⟩

set_option maxRecDepth 100000 in
set_option maxHeartbeats 800000 in
theorem RLong_long {w : World} {r : Nat} {A : Option Addr} {n cap : Nat} {rest : List Int} (h : RdR w r A n cap rest true) (hb : IsBytes rest) (hbig : n ≤ 70368744177664) (most : Int) (hmw : most ≤ 9223372036854775807) (h4 : 4 ≤ n) (N : Nat) (hN : leV (rest.take 4) = N) (hm : max most 0 < (N : Int)) :
    Calls Try.prog 37 #[.pointer (some ⟨r, 0, none⟩), .int .i64 most] w (Ended w r 4) := by
  have hlt : (N : Int) < 4294967296 := by
    have := (leV_lt (hb.take 4)).2
    rw [hN] at this
    have hlen : (rest.take 4).length ≤ 4 := List.length_take_le _ _
    have : (2 : Int) ^ (8 * (rest.take 4).length) ≤ 4294967296 := by
      match hq : (rest.take 4).length, hlen with
      | 0, _ => decide
      | 1, _ => decide
      | 2, _ => decide
      | 3, _ => decide
      | 4, _ => decide
    omega
  have HW := Lib.hid hmw
  have HB := Lib.hid hbig
  clear hmw hbig
  by_cases h0 : 0 ≤ most
  · have hd : decide (most < (N : Int)) = true := by simp; omega
    have hw1 : IntKind.u64.wrap most = most := by rw [IntKind.wrap_u64]; have := HW.out; omega
    go_enter Try.func37, Try.ntmps37
    go_wp2_with fail
    refine (RUint_ok h hb 4 (by decide) h4 HB.out).mono ?_
    rintro e w1 ⟨rfl, ⟨A1, n1, c1, hR1, hA1⟩, hF1⟩
    rw [hN]
    have hn1 : n1 + 4 = n := by have h1 := len_of_reads hR1.reads; have h2 := len_of_reads h.reads; simp at h1; omega
    have HN1 := Lib.hid hn1
    clear hn1
    go_wp2_with (go_at_call 34; refine (Fail_stop hR1.blk 4 rfl).mono ?_; rintro e w' ⟨rfl, rfl⟩)
    exact ⟨rfl, rfl, ⟨_, hR1.blk⟩, hF1⟩
  · have hd : 0 < N := by omega
    clear hm
    go_enter Try.func37, Try.ntmps37
    go_wp2_with fail
    refine (RUint_ok h hb 4 (by decide) h4 HB.out).mono ?_
    rintro e w1 ⟨rfl, ⟨A1, n1, c1, hR1, hA1⟩, hF1⟩
    rw [hN]
    have hn1 : n1 + 4 = n := by have h1 := len_of_reads hR1.reads; have h2 := len_of_reads h.reads; simp at h1; omega
    have HN1 := Lib.hid hn1
    clear hn1
    go_wp2_with (go_at_call 34; refine (Fail_stop hR1.blk 4 rfl).mono ?_; rintro e w' ⟨rfl, rfl⟩)
    exact ⟨rfl, rfl, ⟨_, hR1.blk⟩, hF1⟩

set_option maxRecDepth 100000 in
set_option maxHeartbeats 800000 in
theorem RLong_short {w : World} {r : Nat} {A : Option Addr} {n cap : Nat} {rest : List Int} (h : RdR w r A n cap rest true) (hb : IsBytes rest) (hbig : n ≤ 70368744177664) (most : Int) (hmw : most ≤ 9223372036854775807) (N : Nat) (hN : leV (rest.take 4) = N) (hm : 4 ≤ n → (N : Int) ≤ max most 0) (hl : n < N + 4) :
    Calls Try.prog 37 #[.pointer (some ⟨r, 0, none⟩), .int .i64 most] w (Ended w r 3) := by
  have HL := Lib.hid hl
  have HW := Lib.hid hmw
  have HB := Lib.hid hbig
  clear hl hmw hbig
  by_cases h4 : 4 ≤ n
  · have hm := hm h4
    have hlt : (N : Int) < 4294967296 := by
      have := (leV_lt (hb.take 4)).2
      rw [hN] at this
      have hlen : (rest.take 4).length ≤ 4 := List.length_take_le _ _
      have : (2 : Int) ^ (8 * (rest.take 4).length) ≤ 4294967296 := by
        match hq : (rest.take 4).length, hlen with
        | 0, _ => decide
        | 1, _ => decide
        | 2, _ => decide
        | 3, _ => decide
        | 4, _ => decide
      omega
    have h0 : 0 ≤ most := by have := HL.out; omega
    have hd : decide (most < (N : Int)) = false := by simp; omega
    have hw1 : IntKind.u64.wrap most = most := by rw [IntKind.wrap_u64]; have := HW.out; omega
    go_enter Try.func37, Try.ntmps37
    go_wp2_with fail
    refine (RUint_ok h hb 4 (by decide) h4 HB.out).mono ?_
    rintro e w1 ⟨rfl, ⟨A1, n1, c1, hR1, hA1⟩, hF1⟩
    rw [hN]
    have hn1 : n1 + 4 = n := by have h1 := len_of_reads hR1.reads; have h2 := len_of_reads h.reads; simp at h1; omega
    have HN1 := Lib.hid hn1
    clear hn1
    go_wp2_with (go_at_call 32; refine (RRaw_ended hR1 (N : Int) (.inr (by have := HN1.out; have := HL.out; omega))).mono ?_; rintro e w' ⟨rfl, hbk, hF2⟩)
    exact ⟨rfl, rfl, hbk, hF1.trans hF2 (fun _ _ e => e)⟩
  · clear hm hN
    go_enter Try.func37, Try.ntmps37
    go_wp2_with (go_at_call 46; refine (RUint_ended h 4 (by decide) (by omega)).mono ?_; rintro e w' ⟨rfl, hbk, hF2⟩)
    exact ⟨rfl, rfl, hbk, hF2⟩

set_option maxHeartbeats 400000 in
theorem RLeft_any {w : World} {r : Nat} {A : Option Addr} {n cap : Nat} {rest : List Int} (h : RdR w r A n cap rest true) :
    Calls Try.prog 44 #[.pointer (some ⟨r, 0, none⟩)] w fun e w' => e = .returned (.int .i64 n) ∧ w = w' := by
  have c0 := h.blk.cell 0
  have c1 := h.blk.cell 1
  simp at c0 c1
  go_enter Try.func44, Try.ntmps44
  go_wp2
  go_ret
  exact ⟨rfl, rfl⟩

end Go.Proofs.Ytinomilmccopnaa
