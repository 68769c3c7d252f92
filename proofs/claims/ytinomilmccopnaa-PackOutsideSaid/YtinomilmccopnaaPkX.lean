/- PackOutside: its walk. -/
import Derived.Test.YtinomilmccopnaaPkO
import Derived.Test.YtinomilmccopnaaPcA
namespace Go.Proofs.Ytinomilmccopnaa
open Go.RowKit
attribute [local go_sem ↓] Go.wp_at_zero Go.wp_at_succ

theorem seed_neq (w : World) : (binOp .neq 84 (.agg #[Value.int .u8 0, Value.int .u8 0, Value.int .u8 0, Value.int .u8 0, Value.int .u8 0, Value.int .u8 0, Value.int .u8 0, Value.int .u8 0, Value.int .u8 0, Value.int .u8 0, Value.int .u8 0, Value.int .u8 0, Value.int .u8 0, Value.int .u8 0, Value.int .u8 0, Value.int .u8 0]) (.agg #[Value.int .u8 0, Value.int .u8 0, Value.int .u8 0, Value.int .u8 0, Value.int .u8 0, Value.int .u8 0, Value.int .u8 0, Value.int .u8 0, Value.int .u8 0, Value.int .u8 0, Value.int .u8 0, Value.int .u8 0, Value.int .u8 0, Value.int .u8 0, Value.int .u8 0, Value.int .u8 0])).run Try.prog w = .ok (.bool false) w := by kernel_rfl
theorem id_neq (w : World) : (binOp .neq 23 (.agg #[Value.int .u8 0, Value.int .u8 0, Value.int .u8 0, Value.int .u8 0, Value.int .u8 0, Value.int .u8 0, Value.int .u8 0, Value.int .u8 0, Value.int .u8 0, Value.int .u8 0, Value.int .u8 0, Value.int .u8 0, Value.int .u8 0, Value.int .u8 0, Value.int .u8 0, Value.int .u8 0]) (.agg #[Value.int .u8 0, Value.int .u8 0, Value.int .u8 0, Value.int .u8 0, Value.int .u8 0, Value.int .u8 0, Value.int .u8 0, Value.int .u8 0, Value.int .u8 0, Value.int .u8 0, Value.int .u8 0, Value.int .u8 0, Value.int .u8 0, Value.int .u8 0, Value.int .u8 0, Value.int .u8 0])).run Try.prog w = .ok (.bool false) w := by kernel_rfl

set_option maxRecDepth 100000 in
set_option maxHeartbeats 4000000 in
theorem Outside_any (A : Option Addr) (n cap : Nat) (bs : List Int) (many most : Int) (hm1 : many ≤ 9223372036854775807) (hp0 : 0 ≤ most) (W : World) (hr : Reads W 1 A n (bytes bs)) (hc : n ≤ cap) (hcm : cap ≤ maxLen) :
    Calls Try.prog 9 #[.slice A n cap, .int .i64 many, .int .u64 most] W fun e w' => e = .returned (.bool true) ∧ Fr Nil W w' := by
  have hM := Lib.hid hm1
  have hC := Lib.hid hcm
  clear hm1 hcm
  have hmf : ∀ (fn : Fn) (first cap : Array Value) (w : World), (Instr.makeFunc fn first cap).run Try.prog w = .ok (.func fn first cap) w := fun _ _ _ _ => rfl
  by_cases hn : (100 : Int) < (n : Int)
  · go_enter Try.func9, Try.ntmps9
    go_wp2_with (go_at_call 22; refine (Awake12 _).mono ?_; rintro e w1 ⟨rfl, hF1⟩)
    go_ret
    exact ⟨rfl, hF1⟩
  · go_enter Try.func9, Try.ntmps9
    go_wp2_with fail
    refine (Awake12 _).mono ?_
    rintro e w1 ⟨rfl, hF1⟩
    go_wp2_with fail
    have hg := Blk.new w1 59 #[.pointer none]
    have hr1 := (hr.fr hF1 (fun _ _ e => e)).fr ((Fr.refl Nil w1).alloc (.cells #[.pointer none] 59)) (fun _ _ e => e)
    have hF2 : Fr Nil W (w1.alloc (.cells #[.pointer none] 59)) := hF1.alloc _
    have hgs : (w1.alloc (.cells #[.pointer none] 59)).heap.size = w1.heap.size + 1 := by simp
    generalize w1.alloc (.cells #[.pointer none] 59) = w2 at *
    have hb : ∀ (wx : World), Fr Nil w2 wx → wx.heap.size = w2.heap.size + 3 → RdR wx (w2.heap.size + 1) A n cap bs true → Calls Try.prog 45 (#[.pointer (some ⟨w2.heap.size + 1, 0, none⟩)] ++ #[.pointer (some ⟨w1.heap.size, 0, none⟩)]) wx
          (Left wx (w2.heap.size + 1) bs (fun k => k = w1.heap.size) (fun V => Blk V w1.heap.size 59 #[.pointer (some ⟨w2.heap.size + 1, 0, none⟩)])) := by
      intro wx hFx _ hRx
      exact keeps hRx (hg.fr hFx (fun e => e)) (by clear hr hr1 hF2 hFx hRx; omega) (fun z h => by cases h)
    have hrd := Read_left4 call_keeps hr1 hc hC.out (fun k hk => by rw [hk]; exact hg.lt) hb (fun x y hf hgx => hgx.fr hf (by have := hg.lt; rintro (h | h) <;> omega))
    clear hb
    refine hrd.mono ?_
    clear hrd
    rintro e w3 ⟨rfl, hF3, hg3, s, hr3⟩
    rw [hgs] at hg3 hr3
    have hFw3 : Fr Nil W w3 := hF2.trans hF3 (fun k hk e => by have := hF1.size; omega)
    have p0 := hg3.cell 0
    simp at p0
    go_wp2_with fail
    have hB4 := Blk.new w3 59 #[.pointer (some ⟨w1.heap.size + 1 + 1, 0, none⟩), .pointer none]
    have hF4 : Fr Nil W (w3.alloc (.cells #[.pointer (some ⟨w1.heap.size + 1 + 1, 0, none⟩), .pointer none] 59)) := hFw3.alloc _
    have hr4 := hr3.alloc (.cells #[.pointer (some ⟨w1.heap.size + 1 + 1, 0, none⟩), .pointer none] 59)
    generalize w3.alloc (.cells #[.pointer (some ⟨w1.heap.size + 1 + 1, 0, none⟩), .pointer none] 59) = w4 at *
    clear p0 hr3 hg3 hF3 hgs hF2 hr1 hg hFw3 hF1
    go_loopw [24] (fun q wr => ∃ j : Nat, j ≤ 2 ∧ q = .int .i64 j ∧ Fr Nil w4 wr) (fun q _ => 2 - (intOf q).toNat)
    case atStart => exact ⟨0, by omega, rfl, Fr.refl _ _⟩
    case round =>
      obtain ⟨j, hj, rfl, hF⟩ := hrel
      by_cases hlt : j < 2
      · have hlti : (j : Int) < 2 := by omega
        have hj0 : (0 : Int) ≤ (j : Int) := by omega
        obtain ⟨p, hcell, hd⟩ : ∃ p, wr.cell? ⟨w3.heap.size, j, none⟩ = some (.pointer p) ∧ Dead wr p := by
          have hb := hB4.fr hF (fun e => e)
          have c0 := hb.cell 0
          have c1 := hb.cell 1
          match j, hlt with
          | 0, _ => exact ⟨_, c0, .some _ s (hr4.fr hF (fun e => e))⟩
          | 1, _ => exact ⟨_, c1, .none⟩
        have hs1 := seed_neq
        have hs2 := id_neq
        go_wp2_with (first
          | (go_at_call 34; refine (Fail_dead hd _).mono ?_; rintro e wx ⟨rfl, rfl⟩)
          | (go_at_call 32; refine (RRaw_dead hd _).mono ?_; rintro e wx ⟨rfl, rfl⟩)
          | (go_at_call 46; refine (RUint_dead hd _).mono ?_; rintro e wx ⟨rfl, rfl⟩)
          | (go_at_call 27; refine (RCount_dead hd _ _ hp0).mono ?_; rintro e wx ⟨rfl, rfl⟩)
          | (go_at_call 37; refine (RLong_dead hd _ hM.out).mono ?_; rintro e wx ⟨rfl, rfl⟩)
          | (go_at_call 47; refine (RText_dead hd).mono ?_; rintro e wx ⟨rfl, rfl⟩)
          | (go_at_call 48; refine (RSeed_dead hd).mono ?_; rintro e wx ⟨rfl, hFx⟩; have hd1 := hd.fr hFx)
          | (go_at_call 49; refine (RId_dead hd1).mono ?_; rintro e wy ⟨rfl, hFy⟩; have hd2 := hd1.fr hFy)
          | (go_at_call 44; refine (Left_dead hd2).mono ?_; rintro e wz ⟨rfl, rfl⟩))
        go_roundw
        case rel => exact ⟨j + 1, by omega, by go_num, (hF.trans hFx (fun _ _ e => e)).trans hFy (fun _ _ e => e)⟩
        case measure => simp [intOf]; omega
      · obtain rfl : j = 2 := by omega
        have hFW : Fr Nil W wr := hF4.trans hF (fun _ _ e => e)
        go_wp2_with fail
        refine (WRaw_nil _ _ _ _).mono ?_
        rintro e w5 ⟨rfl, rfl⟩
        go_wp2_with fail
        refine (WUint_nil most hp0 many _).mono ?_
        rintro e w6 ⟨rfl, hF6⟩
        go_wp2_with fail
        refine (WLong_nil A n cap (by omega) _).mono ?_
        rintro e w7 ⟨rfl, hF7⟩
        have hFW7 : Fr Nil W w7 := (hFW.trans hF6 (fun _ _ e => e)).trans hF7 (fun _ _ e => e)
        have hr7 := hr.fr hFW7 (fun _ _ e => e)
        have hst := run_str (P := Try.prog) w7 40 9 5 Try.underlying40 Try.underlying5 Try.underlying9 A n cap bs hr7
        have hsz : (strOfNums bs).size ≤ 1000 := by
          have h1 := bytes_len hr7
          have h2 : (strOfNums bs).size = bs.length := by rw [ByteArray.size, ← Array.length_toList, strOfNums_data]; simp
          omega
        clear hr7 hF6 hF7 hFW hF hF4 hB4 hr4
        go_wp2_with fail
        refine (WText_nil _ hsz _).mono ?_
        rintro e w8 ⟨rfl, hF8⟩
        clear hst
        go_wp2_with fail
        refine (WBytes_nil _).mono ?_
        rintro e w9 ⟨rfl, rfl⟩
        go_wp2_with fail
        refine (Read_nil A n cap _).mono ?_
        rintro e w10 ⟨rfl, hF10⟩
        go_wp2_with fail
        refine (Other_any A n cap _).mono ?_
        rintro e w11 ⟨rfl, hF11⟩
        go_wp2
        go_ret
        exact ⟨ret_bool (by simp), ((hFW7.trans hF8 (fun _ _ e => e)).trans hF10 (fun _ _ e => e)).trans hF11 (fun _ _ e => e)⟩

end Go.Proofs.Ytinomilmccopnaa
