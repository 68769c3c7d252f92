/- PackCounts: what its closures do, its walk. -/
import Derived.Test.YtinomilmccopnaaPkM
import Derived.Lib.SlBytesConst
namespace Go.Proofs.Ytinomilmccopnaa
open Go.RowKit
attribute [local go_sem ↓] Go.wp_at_zero Go.wp_at_succ

theorem wr_new (w : World) : WrR (w.alloc (.cells #[.slice none 0 0] 55)) w.heap.size (.slice none 0 0) [] := ⟨Blk.new w _ _, World.ownsRow_nil _ _ _ _⟩

set_option maxHeartbeats 800000 in
theorem Awake12 (w : World) : Calls Try.prog 22 #[] w fun e w' => e = .returned (.bool true) ∧ Fr Nil w w' := by
  have kc := Lib.run_convert_bytes_const (P := Try.prog) (w.alloc (.cells #[.slice none 0 0] 55)) 40 5 #[.int .u8 97, .int .u8 98] 2 2 Try.underlying40 Try.underlying5
  have hsz : (w.alloc (.cells #[.slice none 0 0] 55)).heap.size = w.heap.size + 1 := by simp
  rw [hsz] at kc
  have hW0 := (wr_new w).nil ((Fr.refl Nil _).alloc (.cells #[.int .u8 97, .int .u8 98] 5 (2, 3)))
  have hr0 : Reads ((w.alloc (.cells #[.slice none 0 0] 55)).alloc (.cells #[.int .u8 97, .int .u8 98] 5 (2, 3))) 1 (some ⟨w.heap.size + 1, 0, none⟩) 2 (bytes [97, 98]) := by
    refine ⟨rfl, fun _ => ⟨_, rfl, fun j u hu => ?_⟩⟩
    have h := cell_of_row ((w.alloc (.cells #[.slice none 0 0] 55)).alloc (.cells #[.int .u8 97, .int .u8 98] 5 (2, 3))) (w.heap.size + 1) j #[.int .u8 97, .int .u8 98] 5 (2, 3) (by rw [← hsz]; exact heap_alloc_new _ _)
    rw [add_none, Nat.zero_add, h]
    simpa [bytes] using hu
  have hF0 : Fr Nil w ((w.alloc (.cells #[.slice none 0 0] 55)).alloc (.cells #[.int .u8 97, .int .u8 98] 5 (2, 3))) := ((Fr.refl Nil w).alloc _).alloc _
  clear hsz
  go_enter Try.func22, Try.ntmps22
  go_wp2_with fail
  refine (WLong_any hW0 hr0 (fun g hg => by
    have hg' : w.heap.size + 1 = g := by simpa [blockOf] using hg
    subst hg'
    exact ⟨by omega, by simp [Value.ownBlock], by simp⟩) (by decide)).mono ?_
  rintro e w2 ⟨rfl, hF2, v2, hR2, hM2⟩
  clear kc
  go_wp2_with fail
  rw [show [] ++ (le ((2 : Nat) : Int) 4 ++ [97, 98]) = [2, 0, 0, 0, 97, 98] from by decide] at hR2
  refine (WBytes_any hR2 (by decide)).mono ?_
  rintro e w3 ⟨P3, c3, rfl, hown3, hF3, hfr3⟩
  have hst := run_str (P := Try.prog) w3 40 9 5 Try.underlying40 Try.underlying5 Try.underlying9 P3 _ c3 _ (Reads.of_own hown3)
  rw [show strOfNums [2, 0, 0, 0, 97, 98] = ⟨#[2, 0, 0, 0, 97, 98]⟩ from by decide] at hst
  have h6 : ([2, 0, 0, 0, 97, 98] : List Int).length = 6 := rfl
  rw [h6] at hst ⊢
  go_wp2
  go_ret
  refine ⟨rfl, ?_⟩
  have hbw : ∀ k, NetS w.heap.size (.slice none 0 0) k → k = w.heap.size := by
    rintro k (h | h)
    · exact h
    · cases h
  exact (hF0.trans hF2 (fun k hk e => by have := hbw k e; omega)).trans hF3 (fun _ _ e => e)

theorem call_counts : ∀ args w, (callFunc 26 args).run Try.prog w = .ok (.enter 26 args) w := fun args w => by kernel_rfl

set_option maxHeartbeats 800000 in
theorem counts_ok {w : World} {r kb mb gb : Nat} {A : Option Addr} {n cap : Nat} {bs : List Int} (h : RdR w r A n cap bs true) (hb : IsBytes bs) (k : Nat) (hk8 : k ≤ 8) (hk : k ≤ n) (hbig : n ≤ 70368744177664) (most : Int) (hm : leV (bs.take k) ≤ most)
    {x : Int} (hkb : w.cell? ⟨kb, 0, none⟩ = some (.int .i64 k)) (hmb : w.cell? ⟨mb, 0, none⟩ = some (.int .u64 most)) (hgb : Blk w gb 3 #[.int .i64 x]) (hgr : gb ≠ r) :
    Calls Try.prog 26 #[.pointer (some ⟨r, 0, none⟩), .pointer (some ⟨kb, 0, none⟩), .pointer (some ⟨mb, 0, none⟩), .pointer (some ⟨gb, 0, none⟩)] w
      (Left w r (bs.drop k) (fun g => g = gb) (fun W => Blk W gb 3 #[.int .i64 (wrap64 (leV (bs.take k)))])) := by
  go_enter Try.func26, Try.ntmps26
  go_wp2_with (go_at_call 27; refine (RCount_ok h hb k hk8 hk hbig most hm).mono ?_; rintro e w1 ⟨rfl, ⟨A1, n1, c1, hR1, hA1⟩, hF1⟩; have hg1 := hgb.fr hF1 hgr; have d0 := hg1.cell 0; have d1 := hg1.frozen 0; simp at d0)
  go_end0
  have hFs : Fr (fun g => g = gb) w1 (w1.setCell ⟨gb, 0, none⟩ (.int .i64 (wrap64 (leV (bs.take k))))) := (Fr.refl (fun g => g = gb) w1).setCell (.inr rfl) _
  exact ⟨rfl, ⟨A1, n1, c1, hR1.other hg1 (by intro u hu z; simp at hu; subst hu; simp) hgr hFs⟩, (hF1.mono (fun _ _ e => .inl e)).setCell (.inr (.inr rfl)) _, by simpa using hg1.set_ 0 (.int .i64 (wrap64 (leV (bs.take k))))⟩

set_option maxHeartbeats 800000 in
theorem counts_range {w : World} {r kb mb gb : Nat} {A : Option Addr} {n cap : Nat} {bs : List Int} (h : RdR w r A n cap bs true) (hb : IsBytes bs) (k : Nat) (hk8 : k ≤ 8) (hk : k ≤ n) (hbig : n ≤ 70368744177664) (most : Int) (hm : most < leV (bs.take k))
    {x : Int} (hkb : w.cell? ⟨kb, 0, none⟩ = some (.int .i64 k)) (hmb : w.cell? ⟨mb, 0, none⟩ = some (.int .u64 most)) (hgb : Blk w gb 3 #[.int .i64 x]) (hgr : gb ≠ r) :
    Calls Try.prog 26 #[.pointer (some ⟨r, 0, none⟩), .pointer (some ⟨kb, 0, none⟩), .pointer (some ⟨mb, 0, none⟩), .pointer (some ⟨gb, 0, none⟩)] w
      (Died w r 6 (fun g => g = gb) (fun W => Blk W gb 3 #[.int .i64 x])) := by
  go_enter Try.func26, Try.ntmps26
  go_wp2_with (go_at_call 27; refine (RCount_range h hb k hk8 hk hbig most hm).mono ?_; rintro e w1 ⟨rfl, ⟨A1, n1, c1, hR1, hA1⟩, hF1⟩)
  exact ⟨rfl, rfl, ⟨_, hR1.blk⟩, hF1.mono (fun _ _ e => .inl e), hgb.fr hF1 hgr⟩

set_option maxHeartbeats 1600000 in
theorem Counts_any (n most a : Int) (hn0 : 0 ≤ n) (hn1 : n ≤ 18446744073709551615) (hm0 : 0 ≤ most) (hm1 : most ≤ 18446744073709551615) (ha0 : 0 ≤ a) (ha1 : a ≤ 255) (w : World) :
    Calls Try.prog 5 #[.int .u64 n, .int .u64 most, .int .u8 a] w fun e w' => e = .returned (.bool true) ∧ Fr Nil w w' := by
  have HN := Lib.hid hn1
  have HM := Lib.hid hm1
  clear hn1 hm1
  have hr0 : 0 ≤ a % 8 := by omega
  have hr1 : a % 8 < 8 := by omega
  go_enter Try.func5, Try.ntmps5
  go_wp2_with (go_at_call 22; refine (Awake12 _).mono ?_; rintro e w1 ⟨rfl, hF1⟩)
  obtain ⟨K, hK⟩ : ∃ K : Nat, (K : Int) = 1 + a % 8 := ⟨(1 + a % 8).toNat, by omega⟩
  rw [← hK]
  have hK0 : 1 ≤ K := by omega
  have hK8 : K ≤ 8 := by omega
  have hcK : clamp8 (K : Int) = K := by unfold clamp8; omega
  clear hK
  have hM1 := (Blk.new w 24 #[.int .u64 most]).fr hF1 (fun e => e)
  have hFw : Fr Nil w w1 := ((Fr.refl Nil w).alloc _).trans hF1 (fun _ _ e => e)
  have hs1 := hF1.size
  simp only [World.size_alloc] at hs1
  clear hF1
  have hM2 := (hM1.alloc (.cells #[.int .i64 K] 3)).alloc (.cells #[.slice none 0 0] 55)
  have hK2 := (Blk.new w1 3 #[.int .i64 K]).alloc (.cells #[.slice none 0 0] 55)
  have hW2 := wr_new (w1.alloc (.cells #[.int .i64 K] 3))
  have hF2 : Fr Nil w ((w1.alloc (.cells #[.int .i64 K] 3)).alloc (.cells #[.slice none 0 0] 55)) := (hFw.alloc _).alloc _
  simp only [World.size_alloc] at hW2
  generalize (w1.alloc (.cells #[.int .i64 K] 3)).alloc (.cells #[.slice none 0 0] 55) = w2 at *
  have hb : w.heap.size ≠ w1.heap.size + 1 := by omega
  have hkb : w1.heap.size ≠ w1.heap.size + 1 := by omega
  refine (WUint_any hW2 n hn0 HN.out (K : Int) (by simp)).mono ?_
  rintro e w3 ⟨rfl, hF3, v3, hW3, _⟩
  rw [hcK, List.nil_append] at hW3
  have hNS : ∀ k, NetS (w1.heap.size + 1) (.slice none 0 0) k → k = w1.heap.size + 1 := by
    rintro k (h | h)
    · exact h
    · cases h
  have hM3 := hM2.fr hF3 (fun e => hb (hNS _ e))
  have hK3 := hK2.fr hF3 (fun e => hkb (hNS _ e))
  have hFw3 : Fr Nil w w3 := hF2.trans hF3 (fun k hk e => by have := hNS k e; omega)
  clear hF3 hF2 hM2 hK2 hW2 hM1 hNS hFw hcK
  have k0 := hK3.cell 0
  simp at k0
  -- what is put is read again
  have hlv : leV ((le n K).take K) = n % 2 ^ (8 * K) := by
    rw [show (le n K).take K = le n K from by rw [List.take_of_length_le]; simp [le_len], leV_le n hn0]
  have hdr : (le n K).drop K = [] := List.drop_of_length_le (by simp [le_len])
  generalize w1.heap.size + 1 = wb at *
  generalize w1.heap.size = kb at *
  by_cases h8 : K < 8
  · have h8i : (K : Int) < 8 := by omega
    obtain ⟨hp0, hpp'⟩ := pow_small K h8
    have hwrap : IntKind.u64.wrap ((2 : Int) ^ (8 * K)) = 2 ^ (8 * K) := by rw [IntKind.wrap_u64]; omega
    have hne : ¬ (2 : Int) ^ (8 * K) = 0 := by omega
    go_wp2_with fail
    obtain ⟨N, hNN⟩ : ∃ N, N = n % 2 ^ (8 * K) := ⟨_, rfl⟩
    have hN0 : 0 ≤ N := by rw [hNN]; exact Int.emod_nonneg _ (by omega)
    have hN1 : N ≤ 18446744073709551615 := by have := Int.emod_lt_of_pos n hp0; omega
    have HN' := Lib.hid hN1
    rw [← hNN] at hlv ⊢
    clear hNN hwrap hne hpp' hp0 hN1
    refine (WBytes_any (hW3.nil ((Fr.refl Nil _).alloc (.cells #[.int .i64 0] 3))) (by simp [le_len]; omega)).mono ?_
    rintro e w4 ⟨P, cp, rfl, hO4, hF4, _⟩
    rw [le_len] at hO4 ⊢
    have hG4 := (Blk.new w3 3 #[.int .i64 0]).fr hF4 (fun e => e)
    have hM4 := (hM3.alloc (.cells #[.int .i64 0] 3)).fr hF4 (fun e => e)
    have hK4 := (hK3.alloc (.cells #[.int .i64 0] 3)).fr hF4 (fun e => e)
    have hFw4 : Fr Nil w w4 := (hFw3.alloc _).trans hF4 (fun _ _ e => e)
    have hgw : w.heap.size < w3.heap.size := hM3.lt
    clear hF4 hW3 hM3 hK3 k0 hFw3
    generalize w3.heap.size = gb at *
    obtain ⟨hcc, hcm⟩ := own_cap hO4
    have hrd := Reads.of_own hO4
    clear hO4
    have hmf : ∀ (fn : Fn) (first cap : Array Value) (w : World), (Instr.makeFunc fn first cap).run Try.prog w = .ok (.func fn first cap) w := fun _ _ _ _ => rfl
    go_wp2_with fail
    by_cases hle : N ≤ most
    · have hb : ∀ (wx : World), Fr Nil w4 wx → wx.heap.size = w4.heap.size + 3 → RdR wx (w4.heap.size + 1) P K cp (le n K) true → Calls Try.prog 26 (#[.pointer (some ⟨w4.heap.size + 1, 0, none⟩)] ++ #[.pointer (some ⟨kb, 0, none⟩), .pointer (some ⟨w.heap.size, 0, none⟩), .pointer (some ⟨gb, 0, none⟩)]) wx
          (Left wx (w4.heap.size + 1) [] (fun g => g = gb) (fun W => Blk W gb 3 #[.int .i64 (wrap64 N)])) := by
        intro wx hFx _ hRx
        have h1 := (hK4.fr hFx (fun e => e)).cell 0
        have h2 := (hM4.fr hFx (fun e => e)).cell 0
        simp at h1 h2
        have h := counts_ok hRx (le_bytes n K) K hK8 (Nat.le_refl _) (by omega) most (by rw [hlv]; exact hle) h1 h2 (hG4.fr hFx (fun e => e)) (by have := hG4.lt; omega)
        rw [hlv, hdr] at h
        exact h
      refine (Read_left call_counts hrd hcc hcm (fun k hk => by rw [hk]; exact hG4.lt) hb (fun x y hf hg => hg.fr hf (by have := hG4.lt; rintro (h | h) <;> omega))).mono ?_
      rintro e w5 ⟨rfl, hF5, hG5⟩
      rw [show endCode [] = 0 from rfl]
      have g0 := hG5.cell 0
      have m0 := (hM4.fr hF5 (by omega)).cell 0
      simp at g0 m0
      have hwr : IntKind.u64.wrap (wrap64 N) = N := by rw [IntKind.wrap_u64]; unfold wrap64; have := HN'.out; omega
      have hle' : decide (most < N) = false := by simp; omega
      have HL := Lib.hid hle
      clear hlv hdr hb
      go_wp2
      go_ret
      exact ⟨ret_bool (by simp), hFw4.trans hF5 (fun k hk e => by omega)⟩
    · have hlt : most < N := by omega
      have hb : ∀ (wx : World), Fr Nil w4 wx → wx.heap.size = w4.heap.size + 3 → RdR wx (w4.heap.size + 1) P K cp (le n K) true → Calls Try.prog 26 (#[.pointer (some ⟨w4.heap.size + 1, 0, none⟩)] ++ #[.pointer (some ⟨kb, 0, none⟩), .pointer (some ⟨w.heap.size, 0, none⟩), .pointer (some ⟨gb, 0, none⟩)]) wx
          (Died wx (w4.heap.size + 1) 6 (fun g => g = gb) (fun W => Blk W gb 3 #[.int .i64 0])) := by
        intro wx hFx _ hRx
        have h1 := (hK4.fr hFx (fun e => e)).cell 0
        have h2 := (hM4.fr hFx (fun e => e)).cell 0
        simp at h1 h2
        exact counts_range hRx (le_bytes n K) K hK8 (Nat.le_refl _) (by omega) most (by rw [hlv]; exact hlt) h1 h2 (hG4.fr hFx (fun e => e)) (by have := hG4.lt; omega)
      refine (Read_died call_counts hrd hcc hcm (fun k hk => by rw [hk]; exact hG4.lt) hb (fun x y hf hg => hg.fr hf (by have := hG4.lt; rintro (h | h) <;> omega))).mono ?_
      rintro e w5 ⟨rfl, hF5, hG5⟩
      have g0 := hG5.cell 0
      have m0 := (hM4.fr hF5 (by omega)).cell 0
      simp at g0 m0
      clear hlv hdr hb hle
      go_wp2
      go_ret
      exact ⟨rfl, hFw4.trans hF5 (fun k hk e => by omega)⟩
  · obtain rfl : K = 8 := by omega
    have hlv8 : n % 2 ^ (8 * 8) = n := by have := HN.out; omega
    rw [hlv8] at hlv
    clear hlv8
    go_wp2_with fail
    obtain ⟨N, rfl⟩ : ∃ N, N = n := ⟨_, rfl⟩
    have hN0 := hn0
    have HN' := HN
    refine (WBytes_any (hW3.nil ((Fr.refl Nil _).alloc (.cells #[.int .i64 0] 3))) (by simp [le_len])).mono ?_
    rintro e w4 ⟨P, cp, rfl, hO4, hF4, _⟩
    rw [le_len] at hO4 ⊢
    have hG4 := (Blk.new w3 3 #[.int .i64 0]).fr hF4 (fun e => e)
    have hM4 := (hM3.alloc (.cells #[.int .i64 0] 3)).fr hF4 (fun e => e)
    have hK4 := (hK3.alloc (.cells #[.int .i64 0] 3)).fr hF4 (fun e => e)
    have hFw4 : Fr Nil w w4 := (hFw3.alloc _).trans hF4 (fun _ _ e => e)
    have hgw : w.heap.size < w3.heap.size := hM3.lt
    clear hF4 hW3 hM3 hK3 k0 hFw3
    generalize w3.heap.size = gb at *
    obtain ⟨hcc, hcm⟩ := own_cap hO4
    have hrd := Reads.of_own hO4
    clear hO4
    have hmf : ∀ (fn : Fn) (first cap : Array Value) (w : World), (Instr.makeFunc fn first cap).run Try.prog w = .ok (.func fn first cap) w := fun _ _ _ _ => rfl
    go_wp2_with fail
    by_cases hle : N ≤ most
    · have hb : ∀ (wx : World), Fr Nil w4 wx → wx.heap.size = w4.heap.size + 3 → RdR wx (w4.heap.size + 1) P 8 cp (le N 8) true → Calls Try.prog 26 (#[.pointer (some ⟨w4.heap.size + 1, 0, none⟩)] ++ #[.pointer (some ⟨kb, 0, none⟩), .pointer (some ⟨w.heap.size, 0, none⟩), .pointer (some ⟨gb, 0, none⟩)]) wx
          (Left wx (w4.heap.size + 1) [] (fun g => g = gb) (fun W => Blk W gb 3 #[.int .i64 (wrap64 N)])) := by
        intro wx hFx _ hRx
        have h1 := (hK4.fr hFx (fun e => e)).cell 0
        have h2 := (hM4.fr hFx (fun e => e)).cell 0
        simp at h1 h2
        have h := counts_ok hRx (le_bytes N 8) 8 (by omega) (Nat.le_refl _) (by omega) most (by rw [hlv]; exact hle) h1 h2 (hG4.fr hFx (fun e => e)) (by have := hG4.lt; omega)
        rw [hlv, hdr] at h
        exact h
      refine (Read_left call_counts hrd hcc hcm (fun k hk => by rw [hk]; exact hG4.lt) hb (fun x y hf hg => hg.fr hf (by have := hG4.lt; rintro (h | h) <;> omega))).mono ?_
      rintro e w5 ⟨rfl, hF5, hG5⟩
      rw [show endCode [] = 0 from rfl]
      have g0 := hG5.cell 0
      have m0 := (hM4.fr hF5 (by omega)).cell 0
      simp at g0 m0
      have hwr : IntKind.u64.wrap (wrap64 N) = N := by rw [IntKind.wrap_u64]; unfold wrap64; have := HN'.out; omega
      have hle' : decide (most < N) = false := by simp; omega
      have HL := Lib.hid hle
      clear hlv hdr hb
      go_wp2
      go_ret
      exact ⟨ret_bool (by simp), hFw4.trans hF5 (fun k hk e => by omega)⟩
    · have hlt : most < N := by omega
      have hb : ∀ (wx : World), Fr Nil w4 wx → wx.heap.size = w4.heap.size + 3 → RdR wx (w4.heap.size + 1) P 8 cp (le N 8) true → Calls Try.prog 26 (#[.pointer (some ⟨w4.heap.size + 1, 0, none⟩)] ++ #[.pointer (some ⟨kb, 0, none⟩), .pointer (some ⟨w.heap.size, 0, none⟩), .pointer (some ⟨gb, 0, none⟩)]) wx
          (Died wx (w4.heap.size + 1) 6 (fun g => g = gb) (fun W => Blk W gb 3 #[.int .i64 0])) := by
        intro wx hFx _ hRx
        have h1 := (hK4.fr hFx (fun e => e)).cell 0
        have h2 := (hM4.fr hFx (fun e => e)).cell 0
        simp at h1 h2
        exact counts_range hRx (le_bytes N 8) 8 (by omega) (Nat.le_refl _) (by omega) most (by rw [hlv]; exact hlt) h1 h2 (hG4.fr hFx (fun e => e)) (by have := hG4.lt; omega)
      refine (Read_died call_counts hrd hcc hcm (fun k hk => by rw [hk]; exact hG4.lt) hb (fun x y hf hg => hg.fr hf (by have := hG4.lt; rintro (h | h) <;> omega))).mono ?_
      rintro e w5 ⟨rfl, hF5, hG5⟩
      have g0 := hG5.cell 0
      have m0 := (hM4.fr hF5 (by omega)).cell 0
      simp at g0 m0
      clear hlv hdr hb hle
      go_wp2
      go_ret
      exact ⟨rfl, hFw4.trans hF5 (fun k hk e => by omega)⟩

end Go.Proofs.Ytinomilmccopnaa
