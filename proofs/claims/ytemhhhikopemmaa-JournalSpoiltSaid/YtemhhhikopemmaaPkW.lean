/- What the Writer of package pack does: contracts. -/
import Derived.Test.YtemhhhikopemmaaMem
import Derived.Test.YtemhhhikopemmaaNum
import Derived.Deep.DrawnRows
import Derived.Deep.RegionLaw
import Derived.BigRegion
namespace Go.Proofs.Ytemhhhikopemmaa
open Go.RowKit
attribute [local go_sem ↓] Go.wp_at_zero Go.wp_at_succ

/-- The Writer at block b: its bytes are the value v, which holds bs. -/
structure WrR (w : World) (b : Nat) (v : Value) (bs : List Int) : Prop where
  blk : Blk w b 94 #[v]
  own : w.ownsRow 0 5 1 v bs.length (bytes bs)

theorem WrR.fr {S : Nat → Prop} {w w' : World} {b : Nat} {v : Value} {bs : List Int} (h : WrR w b v bs) (hf : Fr S w w') (hb : ¬ S b) (hv : ∀ k, v.ownBlock = some k → ¬ S k) : WrR w' b v bs := ⟨h.blk.fr hf hb, own_fr h.own hf hv⟩
theorem WrR.nil {w w' : World} {b : Nat} {v : Value} {bs : List Int} (h : WrR w b v bs) (hf : Fr Nil w w') : WrR w' b v bs := h.fr hf (fun e => e) (fun _ _ e => e)

theorem step_own {w : World} {b : Nat} {v v' : Value} (h : Moved w v v') : ∀ k, k < w.heap.size → NetS b v' k → NetS b v k := by
  rintro k hk (rfl | e)
  · exact .inl rfl
  · rcases h k e with h | h
    · exact .inr h
    · omega
theorem Moved.trans_ {w w1 : World} {v v1 v2 : Value} (h : Moved w v v1) (hs : w.heap.size ≤ w1.heap.size) (h2 : Moved w1 v1 v2) : Moved w v v2 := fun g hg => by
  rcases h2 g hg with e | e
  · exact h g e
  · exact .inr (Nat.le_trans hs e)

/-- What a put leaves. -/
structure Put (w : World) (b : Nat) (v : Value) (bs xs : List Int) (e : Ending) (w' : World) : Prop where
  ok : e = .returned (.tuple #[])
  fr : Fr (NetS b v) w w'
  rep : ∃ v', WrR w' b v' (bs ++ xs) ∧ Moved w v v'

set_option maxHeartbeats 800000 in
theorem WRaw_any {w : World} {b : Nat} {v : Value} {bs xs : List Int} {A : Option Addr} {m cap : Nat} (h : WrR w b v bs) (hr : Reads w 1 A m (bytes xs)) (hm : bs.length + m ≤ 70368744177664) :
    Calls Try.prog 46 #[.pointer (some ⟨b, 0, none⟩), .slice A m cap] w (Put w b v bs xs) := by
  obtain ⟨i0, hi0, hz0, hz1, hz2⟩ := info_parts Try.info5
  obtain ⟨V, cv, rfl⟩ := own_form h.own
  have c0 := h.blk.cell 0
  have f0 := h.blk.frozen 0
  have hb := h.blk.lt
  have hVb : (Value.slice V bs.length cv).ownBlock ≠ some b := own_ne h.own h.blk (by decide)
  simp at c0
  go_enter Try.func46, Try.ntmps46
  go_wp2_with (at_builtin; refine wpList_app _ rfl (.tmp 10) (.tmp 11) 23 rfl 5 i0 (.int .u8 0) 1 1 Try.underlying23 hi0 hz0 hz1 hz2 rfl (by omega) (.slice V bs.length cv) bs.length (bytes bs) rfl h.own A m cap (bytes xs) rfl hr (one_bytes xs) (by unfold maxLen; omega) (by omega) ?_; intro v2 w2 hown2 hg2 hat2; obtain ⟨V2, cp2, rfl⟩ := own_form hown2; have hB2 := h.blk.grown hg2 hVb; have d0 := hB2.cell 0; have d1 := hB2.frozen 0; simp at d0)
  go_end0
  have hF2 : Fr (NetS b (.slice V bs.length cv)) w w2 := (Fr.refl _ _).grown hg2 (fun k hk _ => .inr hk)
  have hV2b : (Value.slice V2 (bs.length + m) cp2).ownBlock ≠ some b := own_ne hown2 hB2 (by decide)
  have hml : (bs ++ xs).length = bs.length + m := by have := hr.1; simp [bytes] at this; simp [this]
  refine ⟨rfl, hF2.setCell (.inr (.inl rfl)) _, .slice V2 (bs.length + m) cp2, ⟨?_, ?_⟩, ?_⟩
  · have := hB2.set_ 0 (.slice V2 (bs.length + m) cp2)
    simpa using this
  · rw [hml, show bytes (bs ++ xs) = bytes bs ++ bytes xs from by simp [bytes]]
    exact own_fr hown2 ((Fr.refl (fun k => k = b) w2).setCell (.inr rfl) _) (fun k hk e => hV2b (by rw [hk, e]))
  · intro g hg
    rcases hat2 with e | e
    · exact .inl (by rw [← e]; exact hg)
    · rw [e] at hg
      exact .inr (by have : w.heap.size = g := by simpa using hg
                     omega)

set_option maxHeartbeats 400000 in
theorem WRaw_nil (A : Option Addr) (m cap : Nat) (w : World) :
    Calls Try.prog 46 #[.pointer none, .slice A m cap] w fun e w' => e = .returned (.tuple #[]) ∧ w = w' := by
  go_enter Try.func46, Try.ntmps46
  go_wp2
  go_end0
  exact ⟨rfl, rfl⟩

set_option maxHeartbeats 800000 in
theorem WBytes_any {w : World} {b : Nat} {v : Value} {bs : List Int} (h : WrR w b v bs) (hm : bs.length ≤ 70368744177664) :
    Calls Try.prog 48 #[.pointer (some ⟨b, 0, none⟩)] w fun e w' => ∃ A cap, e = .returned (.slice A bs.length cap) ∧ w'.ownsRow 0 5 1 (.slice A bs.length cap) bs.length (bytes bs) ∧ Fr Nil w w' ∧ ∀ g, blockOf A = some g → w.heap.size ≤ g := by
  obtain ⟨i0, hi0, hz0, hz1, hz2⟩ := info_parts Try.info5
  obtain ⟨V, cv, rfl⟩ := own_form h.own
  have c0 := h.blk.cell 0
  simp at c0
  have hb := h.blk.lt
  go_enter Try.func48, Try.ntmps48
  go_wp2_with (at_builtin; refine wpList_app _ rfl (.tmp 5) (.tmp 9) 23 rfl 5 i0 (.int .u8 0) 1 1 Try.underlying23 hi0 hz0 hz1 hz2 rfl (by omega) (.slice (some ⟨w.heap.size, 0, none⟩) 0 0) 0 [] rfl (own_empty _ _ _ _ rfl) V bs.length cv (bytes bs) rfl ((Reads.of_own h.own).fr ((Fr.refl Nil w).alloc _) (fun _ _ e => e)) (one_bytes bs) (by unfold maxLen; omega) (by omega) ?_; intro v2 w2 hown2 hg2 hat2; obtain ⟨V2, cp2, rfl⟩ := own_form hown2; rw [Nat.zero_add] at hat2)
  go_ret
  refine ⟨V2, cp2, by simp, by simpa using hown2, ((Fr.refl Nil w).alloc _).grown hg2 (by intro k hk hlt; simp [Value.ownBlock] at hk; omega), fun g hg => ?_⟩
  have hg' : (Value.slice V2 bs.length cp2).ownBlock = some g := own_of_blockOf hg
  rcases hat2 with e | e <;> rw [e] at hg' <;> simp [Value.ownBlock] at hg' <;> omega

set_option maxHeartbeats 400000 in
theorem WBytes_nil (w : World) :
    Calls Try.prog 48 #[.pointer none] w fun e w' => e = .returned (.slice none 0 0) ∧ w = w' := by
  go_enter Try.func48, Try.ntmps48
  go_wp2
  go_ret
  exact ⟨rfl, rfl⟩

set_option maxHeartbeats 1600000 in
theorem WUint_any {w : World} {b : Nat} {v : Value} {bs : List Int} (h : WrR w b v bs) (n : Int) (hn0 : 0 ≤ n) (hn1 : n ≤ 18446744073709551615) (z : Int) (hm : bs.length + 8 ≤ 70368744177664) :
    Calls Try.prog 47 #[.pointer (some ⟨b, 0, none⟩), .int .u64 n, .int .i64 z] w (Put w b v bs (le n (clamp8 z))) := by
  have HN := Lib.hid hn1
  have hK8 : clamp8 z ≤ 8 := by unfold clamp8; omega
  have HM := Lib.hid hm
  clear hn1 hm
  have hcase : z < 0 ∧ clamp8 z = 0 ∨ 8 < z ∧ clamp8 z = 8 ∨ 0 ≤ z ∧ z ≤ 8 ∧ z = clamp8 z := by unfold clamp8; omega
  rcases hcase with ⟨h0, hK⟩ | ⟨h0, hK⟩ | ⟨h0, h1, hK⟩
  · rw [hK]
    clear hK hK8
    go_enter Try.func47, Try.ntmps47
    go_wp2
    go_loopw [10] (fun q wr => ∃ k : Nat, k ≤ 0 ∧ q = .int .i64 k ∧ ∃ v', WrR wr b v' (bs ++ le n k) ∧ Fr (NetS b v) w wr ∧ Moved w v v') (fun q _ => 0 - (intOf q).toNat)
    case atStart => exact ⟨0, Nat.zero_le _, rfl, v, by simpa [le] using h, Fr.refl _ _, fun g hg => .inl hg⟩
    case round =>
      obtain ⟨k, hk, rfl, v', hR, hF, hM⟩ := hrel
      by_cases hlt : k < 0
      · omega
      · obtain rfl : k = 0 := by omega
        go_wp2
        go_end0
        exact ⟨rfl, hF, v', hR, hM⟩
  · rw [hK]
    clear hK hK8
    go_enter Try.func47, Try.ntmps47
    go_wp2
    go_loopw [10] (fun q wr => ∃ k : Nat, k ≤ 8 ∧ q = .int .i64 k ∧ ∃ v', WrR wr b v' (bs ++ le n k) ∧ Fr (NetS b v) w wr ∧ Moved w v v') (fun q _ => 8 - (intOf q).toNat)
    case atStart => exact ⟨0, Nat.zero_le _, rfl, v, by simpa [le] using h, Fr.refl _ _, fun g hg => .inl hg⟩
    case round =>
      obtain ⟨k, hk, rfl, v', hR, hF, hM⟩ := hrel
      by_cases hlt : k < 8
      · have hk7 : (k : Int) ≤ 7 := by omega
        have hlti : (k : Int) < 8 := by omega
        have hR' := hR.nil ((Fr.refl Nil wr).alloc (.cells #[.int .u8 (n / 2 ^ (8 * k) % 256)] 5))
        have hrd : Reads (wr.alloc (.cells #[.int .u8 (n / 2 ^ (8 * k) % 256)] 5)) 1 (some ⟨wr.heap.size, 0, none⟩) 1 (bytes [n / 2 ^ (8 * k) % 256]) := Reads.of_blk (Blk.new wr _ _) rfl
        have hFa : Fr (NetS b v) w (wr.alloc (.cells #[.int .u8 (n / 2 ^ (8 * k) % 256)] 5)) := hF.alloc _
        go_wp2_with (go_at_call 46; refine (WRaw_any hR' hrd (by have := HM.out; simp [le_len]; omega)).mono ?_; rintro e w2 ⟨rfl, hF2, v2, hR2, hM2⟩)
        go_roundw
        case rel => exact ⟨k + 1, by omega, by go_num, v2, by rw [le_succ, ← List.append_assoc]; exact hR2, hFa.trans hF2 (step_own hM), hM.trans_ (Nat.le_trans hF.size (by simp)) hM2⟩
        case measure => simp [intOf]; omega
      · obtain rfl : k = 8 := by omega
        go_wp2
        go_end0
        exact ⟨rfl, hF, v', hR, hM⟩
  · obtain ⟨K, rfl⟩ : ∃ K : Nat, z = K := ⟨clamp8 z, hK⟩
    have hKK : clamp8 (K : Int) = K := by omega
    rw [hKK] at hK8 ⊢
    clear hKK hK
    have hk8 : (K : Int) ≤ 8 := by omega
    go_enter Try.func47, Try.ntmps47
    go_wp2
    go_loopw [10] (fun q wr => ∃ k : Nat, k ≤ K ∧ q = .int .i64 k ∧ ∃ v', WrR wr b v' (bs ++ le n k) ∧ Fr (NetS b v) w wr ∧ Moved w v v') (fun q _ => K - (intOf q).toNat)
    case atStart => exact ⟨0, Nat.zero_le _, rfl, v, by simpa [le] using h, Fr.refl _ _, fun g hg => .inl hg⟩
    case round =>
      obtain ⟨k, hk, rfl, v', hR, hF, hM⟩ := hrel
      by_cases hlt : k < K
      · have hk7 : (k : Int) ≤ 7 := by omega
        have hlti : (k : Int) < K := by omega
        have hR' := hR.nil ((Fr.refl Nil wr).alloc (.cells #[.int .u8 (n / 2 ^ (8 * k) % 256)] 5))
        have hrd : Reads (wr.alloc (.cells #[.int .u8 (n / 2 ^ (8 * k) % 256)] 5)) 1 (some ⟨wr.heap.size, 0, none⟩) 1 (bytes [n / 2 ^ (8 * k) % 256]) := Reads.of_blk (Blk.new wr _ _) rfl
        have hFa : Fr (NetS b v) w (wr.alloc (.cells #[.int .u8 (n / 2 ^ (8 * k) % 256)] 5)) := hF.alloc _
        go_wp2_with (go_at_call 46; refine (WRaw_any hR' hrd (by have := HM.out; simp [le_len]; omega)).mono ?_; rintro e w2 ⟨rfl, hF2, v2, hR2, hM2⟩)
        go_roundw
        case rel => exact ⟨k + 1, by omega, by go_num, v2, by rw [le_succ, ← List.append_assoc]; exact hR2, hFa.trans hF2 (step_own hM), hM.trans_ (Nat.le_trans hF.size (by simp)) hM2⟩
        case measure => simp [intOf]; omega
      · obtain rfl : K = k := by omega
        go_wp2
        go_end0
        exact ⟨rfl, hF, v', hR, hM⟩

theorem bytes_len {w : World} {A : Option Addr} {n : Nat} {bs : List Int} (h : Reads w 1 A n (bytes bs)) : bs.length = n := by have := h.1; simpa [bytes] using this

end Go.Proofs.Ytemhhhikopemmaa
