/- A Reader that is kept, or nil; a nil Writer: contracts. -/
import Derived.Test.YtinomilmccopnaaPkM
import Derived.Test.YtinomilmccopnaaCopy
namespace Go.Proofs.Ytinomilmccopnaa
open Go.RowKit
attribute [local go_sem ↓] Go.wp_at_zero Go.wp_at_succ

/-- A Reader that does nothing any more. -/
inductive Dead (w : World) : Option Addr → Prop
  | none : Dead w none
  | some (r : Nat) (s : Value) (h : Blk w r 106 #[s, .bool false]) : Dead w (some ⟨r, 0, none⟩)

theorem Dead.fr {w w' : World} {p : Option Addr} (h : Dead w p) (hf : Fr Nil w w') : Dead w' p := by
  cases h with
  | none => exact .none
  | some r s h => exact .some r s (h.fr hf (fun e => e))

set_option maxHeartbeats 400000 in
theorem Fail_dead {w : World} {p : Option Addr} (h : Dead w p) (c : Int) :
    Calls Try.prog 34 #[.pointer p, .int .i64 c] w fun e w' => e = .returned (.tuple #[]) ∧ w = w' := by
  cases h with
  | none =>
    go_enter Try.func34, Try.ntmps34
    go_wp2
    go_end0
    exact ⟨rfl, rfl⟩
  | some r s h =>
    have c1 := h.cell 1
    simp at c1
    go_enter Try.func34, Try.ntmps34
    go_wp2
    go_end0
    exact ⟨rfl, rfl⟩

set_option maxHeartbeats 400000 in
theorem Left_dead {w : World} {p : Option Addr} (h : Dead w p) :
    Calls Try.prog 44 #[.pointer p] w fun e w' => e = .returned (.int .i64 0) ∧ w = w' := by
  cases h with
  | none =>
    go_enter Try.func44, Try.ntmps44
    go_wp2
    go_ret
    exact ⟨rfl, rfl⟩
  | some r s h =>
    have c1 := h.cell 1
    simp at c1
    go_enter Try.func44, Try.ntmps44
    go_wp2
    go_ret
    exact ⟨rfl, rfl⟩

set_option maxHeartbeats 400000 in
theorem RRaw_dead {w : World} {p : Option Addr} (h : Dead w p) (k : Int) :
    Calls Try.prog 32 #[.pointer p, .int .i64 k] w fun e w' => e = .returned (.slice none 0 0) ∧ w = w' := by
  cases h with
  | none =>
    go_enter Try.func32, Try.ntmps32
    go_wp2
    go_ret
    exact ⟨rfl, rfl⟩
  | some r s h =>
    have c1 := h.cell 1
    simp at c1
    go_enter Try.func32, Try.ntmps32
    go_wp2
    go_ret
    exact ⟨rfl, rfl⟩

set_option maxHeartbeats 800000 in
theorem RUint_dead {w : World} {p : Option Addr} (h : Dead w p) (k : Int) :
    Calls Try.prog 46 #[.pointer p, .int .i64 k] w fun e w' => e = .returned (.int .u64 0) ∧ w = w' := by
  have hcase : k < 0 ∨ 8 < k ∨ 0 ≤ k ∧ k ≤ 8 := by omega
  rcases hcase with h0 | h0 | ⟨h0, h1⟩
  all_goals
    go_enter Try.func46, Try.ntmps46
    go_wp2_with (go_at_call 32; refine (RRaw_dead h _).mono ?_; rintro e w1 ⟨rfl, rfl⟩)
    go_loop [14, 5] (fun q v => q = .int .i64 0 ∧ v = .int .u64 0) (fun _ _ => 0)
    case atStart => exact ⟨rfl, rfl⟩
    case round =>
      obtain ⟨rfl, rfl⟩ := hrel
      go_wp2
      go_ret
      exact ⟨rfl, rfl⟩

set_option maxHeartbeats 400000 in
theorem RCount_dead {w : World} {p : Option Addr} (h : Dead w p) (k most : Int) (hm : 0 ≤ most) :
    Calls Try.prog 27 #[.pointer p, .int .i64 k, .int .u64 most] w fun e w' => e = .returned (.int .i64 0) ∧ w = w' := by
  have hm' : decide (most < 0) = false := by simp; omega
  go_enter Try.func27, Try.ntmps27
  go_wp2_with (go_at_call 46; refine (RUint_dead h k).mono ?_; rintro e w1 ⟨rfl, rfl⟩)
  go_ret
  exact ⟨ret_int (by decide), rfl⟩

set_option maxHeartbeats 800000 in
theorem RLong_dead {w : World} {p : Option Addr} (h : Dead w p) (k : Int) (hk : k ≤ 9223372036854775807) :
    Calls Try.prog 37 #[.pointer p, .int .i64 k] w fun e w' => e = .returned (.slice none 0 0) ∧ w = w' := by
  have HK := Lib.hid hk
  clear hk
  by_cases h0 : k < 0
  · go_enter Try.func37, Try.ntmps37
    go_wp2_with (first | (go_at_call 46; refine (RUint_dead h 4).mono ?_; rintro e w1 ⟨rfl, rfl⟩) | (go_at_call 32; refine (RRaw_dead h _).mono ?_; rintro e w1 ⟨rfl, rfl⟩))
    go_ret
    exact ⟨rfl, rfl⟩
  · have hw : IntKind.u64.wrap k = k := by rw [IntKind.wrap_u64]; have := HK.out; omega
    have hd : decide (k < 0) = false := by simp; omega
    have h0' : 0 ≤ k := by omega
    go_enter Try.func37, Try.ntmps37
    go_wp2_with (first | (go_at_call 46; refine (RUint_dead h 4).mono ?_; rintro e w1 ⟨rfl, rfl⟩) | (go_at_call 32; refine (RRaw_dead h _).mono ?_; rintro e w1 ⟨rfl, rfl⟩))
    go_ret
    exact ⟨rfl, rfl⟩

set_option maxHeartbeats 800000 in
theorem RText_dead {w : World} {p : Option Addr} (h : Dead w p) :
    Calls Try.prog 47 #[.pointer p] w fun e w' => e = .returned (.string ⟨#[]⟩) ∧ w = w' := by
  have hst := run_str (P := Try.prog) w 40 9 5 Try.underlying40 Try.underlying5 Try.underlying9 none 0 0 [] (Reads.nil_ _)
  rw [show strOfNums [] = ⟨#[]⟩ from rfl] at hst
  go_enter Try.func47, Try.ntmps47
  go_wp2_with (first | (go_at_call 46; refine (RUint_dead h 1).mono ?_; rintro e w1 ⟨rfl, rfl⟩) | (go_at_call 32; refine (RRaw_dead h _).mono ?_; rintro e w1 ⟨rfl, rfl⟩))
  go_ret
  exact ⟨rfl, rfl⟩

/-! ### The nil Writer -/

set_option maxHeartbeats 1600000 in
theorem WUint_nil (n : Int) (hn0 : 0 ≤ n) (z : Int) (w : World) :
    Calls Try.prog 23 #[.pointer none, .int .u64 n, .int .i64 z] w fun e w' => e = .returned (.tuple #[]) ∧ Fr Nil w w' := by
  have hK8 : clamp8 z ≤ 8 := by unfold clamp8; omega
  have hcase : z < 0 ∧ clamp8 z = 0 ∨ 8 < z ∧ clamp8 z = 8 ∨ 0 ≤ z ∧ z ≤ 8 ∧ z = clamp8 z := by unfold clamp8; omega
  rcases hcase with ⟨h0, hK⟩ | ⟨h0, hK⟩ | ⟨h0, h1, hK⟩
  · clear hK hK8
    go_enter Try.func23, Try.ntmps23
    go_wp2
    go_loopw [10] (fun q wr => q = .int .i64 0 ∧ Fr Nil w wr) (fun _ _ => 0)
    case atStart => exact ⟨rfl, Fr.refl _ _⟩
    case round =>
      obtain ⟨rfl, hF⟩ := hrel
      go_wp2
      go_end0
      exact ⟨rfl, hF⟩
  · clear hK hK8
    go_enter Try.func23, Try.ntmps23
    go_wp2
    go_loopw [10] (fun q wr => ∃ k : Nat, k ≤ 8 ∧ q = .int .i64 k ∧ Fr Nil w wr) (fun q _ => 8 - (intOf q).toNat)
    case atStart => exact ⟨0, Nat.zero_le _, rfl, Fr.refl _ _⟩
    case round =>
      obtain ⟨k, hk, rfl, hF⟩ := hrel
      by_cases hlt : k < 8
      · have hk7 : (k : Int) ≤ 7 := by omega
        have hlti : (k : Int) < 8 := by omega
        have hFa : Fr Nil w (wr.alloc (.cells #[.int .u8 (n / 2 ^ (8 * k) % 256)] 5)) := hF.alloc _
        go_wp2_with (go_at_call 50; refine (WRaw_nil _ _ _ _).mono ?_; rintro e w2 ⟨rfl, rfl⟩)
        go_roundw
        case rel => exact ⟨k + 1, by omega, by go_num, hFa⟩
        case measure => simp [intOf]; omega
      · obtain rfl : k = 8 := by omega
        go_wp2
        go_end0
        exact ⟨rfl, hF⟩
  · obtain ⟨K, rfl⟩ : ∃ K : Nat, z = K := ⟨clamp8 z, hK⟩
    have hk8 : (K : Int) ≤ 8 := by omega
    clear hK hK8
    go_enter Try.func23, Try.ntmps23
    go_wp2
    go_loopw [10] (fun q wr => ∃ k : Nat, k ≤ K ∧ q = .int .i64 k ∧ Fr Nil w wr) (fun q _ => K - (intOf q).toNat)
    case atStart => exact ⟨0, Nat.zero_le _, rfl, Fr.refl _ _⟩
    case round =>
      obtain ⟨k, hk, rfl, hF⟩ := hrel
      by_cases hlt : k < K
      · have hk7 : (k : Int) ≤ 7 := by omega
        have hlti : (k : Int) < K := by omega
        have hFa : Fr Nil w (wr.alloc (.cells #[.int .u8 (n / 2 ^ (8 * k) % 256)] 5)) := hF.alloc _
        go_wp2_with (go_at_call 50; refine (WRaw_nil _ _ _ _).mono ?_; rintro e w2 ⟨rfl, rfl⟩)
        go_roundw
        case rel => exact ⟨k + 1, by omega, by go_num, hFa⟩
        case measure => simp [intOf]; omega
      · obtain rfl : K = k := by omega
        go_wp2
        go_end0
        exact ⟨rfl, hF⟩

set_option maxRecDepth 100000 in
set_option maxHeartbeats 800000 in
theorem WLong_nil (A : Option Addr) (m cap : Nat) (hm : (m : Int) ≤ 35184372088832) (w : World) :
    Calls Try.prog 35 #[.pointer none, .slice A m cap] w fun e w' => e = .returned (.tuple #[]) ∧ Fr Nil w w' := by
  have HM := Lib.hid hm
  clear hm
  have hm0 : (0 : Int) ≤ (m : Int) := by omega
  have hmc : IntKind.u64.wrap (m : Int) = (m : Int) := by rw [IntKind.wrap_u64]; have := HM.out; omega
  go_enter Try.func35, Try.ntmps35
  go_wp2_with (first | (go_at_call 23; refine (WUint_nil (m : Int) hm0 4 _).mono ?_; rintro e w2 ⟨rfl, hF2⟩) | (go_at_call 50; refine (WRaw_nil _ _ _ _).mono ?_; rintro e w3 ⟨rfl, rfl⟩))
  go_end0
  exact ⟨rfl, hF2⟩

set_option maxRecDepth 100000 in
set_option maxHeartbeats 800000 in
theorem WText_nil (s : ByteArray) (hs : s.size ≤ 1000) (w : World) :
    Calls Try.prog 51 #[.pointer none, .string s] w fun e w' => e = .returned (.tuple #[]) ∧ Fr Nil w w' := by
  by_cases h5 : s.size ≤ 255
  · have h5i : (s.size : Int) ≤ 255 := by omega
    have hs0 : (0 : Int) ≤ (s.size : Int) := by omega
    have hcv := run_bytes_of_string (P := Try.prog) (w.alloc (.cells #[.int .u8 (s.size : Int)] 5)) 9 40 5 (s) Try.underlying9 Try.underlying40 Try.underlying5
    generalize grownCap (w.alloc (.cells #[.int .u8 (s.size : Int)] 5)) (s).size 0 5 = gc at hcv
    have hF : Fr Nil w (((w.alloc (.cells #[.int .u8 (s.size : Int)] 5)).drew).alloc (.cells (bytesRow (s) gc) 5 ((bytesRow (s) gc).size, (bytesRow (s) gc).size + 1))) := (((Fr.refl Nil w).alloc _).drew).alloc _
    go_enter Try.func51, Try.ntmps51
    go_wp2_with (go_at_call 50; refine (WRaw_nil _ _ _ _).mono ?_; rintro e w3 ⟨rfl, rfl⟩)
    go_end0
    exact ⟨rfl, hF⟩
  · have h5i : (255 : Int) < (s.size : Int) := by omega
    have hx : (s.extract 0 255).size = 255 := by simp; omega
    have hcv := run_bytes_of_string (P := Try.prog) (w.alloc (.cells #[.int .u8 255] 5)) 9 40 5 (s.extract 0 255) Try.underlying9 Try.underlying40 Try.underlying5
    generalize grownCap (w.alloc (.cells #[.int .u8 255] 5)) (s.extract 0 255).size 0 5 = gc at hcv
    have hF : Fr Nil w (((w.alloc (.cells #[.int .u8 255] 5)).drew).alloc (.cells (bytesRow (s.extract 0 255) gc) 5 ((bytesRow (s.extract 0 255) gc).size, (bytesRow (s.extract 0 255) gc).size + 1))) := (((Fr.refl Nil w).alloc _).drew).alloc _
    go_enter Try.func51, Try.ntmps51
    go_wp2_with fail
    refine (WRaw_nil _ _ _ _).mono ?_
    rintro e w2 ⟨rfl, rfl⟩
    go_wp2_with fail
    refine (WRaw_nil _ _ _ _).mono ?_
    rintro e w3 ⟨rfl, rfl⟩
    go_wp2
    go_end0
    exact ⟨rfl, hF⟩

end Go.Proofs.Ytinomilmccopnaa
