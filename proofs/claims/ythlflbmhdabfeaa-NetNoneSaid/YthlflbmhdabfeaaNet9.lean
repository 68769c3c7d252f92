import Derived.Test.YthlflbmhdabfeaaNet8
namespace Go.Proofs.Ythlflbmhdabfeaa
open Go.RowKit

/-- A row of bytes of the call's own, whatever they are now; only it has turned. -/
def Scr (w0 : World) (v : Value) (n : Nat) (wr : World) : Prop :=
  ∃ xs : List Int, wr.ownsRow 0 5 1 v n (bytes xs) ∧ Fr (fun k => v.ownBlock = some k) w0 wr

theorem scr_set {w0 wr : World} {g n cp k : Nat} {xs : List Int} {z : Int} (h : wr.ownsRow 0 5 1 (.slice (some ⟨g, 0, none⟩) n cp) n (bytes xs)) (hf : Fr (fun k => (Value.slice (some ⟨g, 0, none⟩) n cp).ownBlock = some k) w0 wr) :
    Scr w0 (.slice (some ⟨g, 0, none⟩) n cp) n (wr.setCell ⟨g, k, none⟩ (.int .u8 z)) := by
  have h1 := (h.stored k (.int .u8 z)).1
  refine ⟨xs.set k z, ?_, hf.setCell (p := ⟨g, k, none⟩) (.inr rfl) _⟩
  rw [show bytes (xs.set k z) = (bytes xs).set k (.int .u8 z) from by simp [bytes, List.map_set]]
  exact h1

set_option maxRecDepth 100000 in
set_option maxHeartbeats 3200000 in
theorem None_any (i : Int) (A : Option Addr) (n cap : Nat) (z : List Int) (w : World) (hz : Reads w 1 A n (bytes z)) :
    Calls Try.prog 5 #[.int .i64 i, .slice A n cap] w fun e w' => e = .returned (.bool true) ∧ Fr Nil w w' := by
  obtain ⟨i0, hi0, hz0, hz1, hz2⟩ := info_parts Try.info5
  by_cases hn : 100 < n
  · have hni : (100 : Int) < (n : Int) := by omega
    go_enter Try.func5, Try.ntmps5
    go_wp2_with (go_at_call 6; refine (Awake_any _).mono ?_; rintro e w1 ⟨rfl, hF1⟩)
    go_ret
    exact ⟨rfl, hF1⟩
  · have hn1 : n ≤ 100 := by omega
    have hni : (n : Int) ≤ 100 := by omega
    have hnb : decide ((100 : Int) < (n : Int)) = false := by simp; omega
    clear hn
    go_enter Try.func5, Try.ntmps5
    go_wp2_with (first | (go_at_call 6; refine (Awake_any _).mono ?_; rintro e w1 ⟨rfl, hF1⟩) | (go_at_call 15; refine (Peek_nil _ _).mono ?_; rintro e w2 ⟨rfl, hF2⟩; unfold noLetter) | (go_at_call 11; refine (Deliver_nil _ _).mono ?_; rintro e w3 ⟨rfl, hF3⟩; unfold noLetter) | (go_at_call 14; refine (Counts_nil _).mono ?_; rintro e w4 ⟨rfl, rfl⟩) | (go_at_call 7; refine (New_any _).mono ?_; rintro e w5 ⟨rfl, rfl⟩) | (at_builtin; refine wpList_app _ rfl (.tmp 45) (.tmp 46) 27 rfl 5 i0 (.int .u8 0) 1 1 Try.underlying27 hi0 hz0 hz1 hz2 rfl (by omega) _ 0 [] rfl ?_ A n cap (bytes z) rfl ?_ (one_bytes z) (by unfold maxLen; omega) (by omega) ?_))
    · exact own_empty _ _ _ _ (by simp)
    · exact (((((hz.fr hF1 (fun _ _ e => e)).fr hF2 (fun _ _ e => e)).fr ((Fr.refl Nil _).alloc _) (fun _ _ e => e)).fr hF3 (fun _ _ e => e)).fr ((((Fr.refl Nil _).alloc _).alloc _).alloc _) (fun _ _ e => e))
    intro v6 w6 hown6 hg6 hat6
    obtain ⟨V, cp, rfl⟩ := own_form hown6
    have hF03 : Fr Nil w w3 := ((hF1.trans hF2 (fun _ _ e => e)).alloc _).trans hF3 (fun _ _ e => e)
    have hz3 := hz.fr hF03 (fun _ _ e => e)
    have hs3 := hF03.size
    have hF6 : Fr Nil w w6 := (((hF03.alloc _).alloc _).alloc _).grown hg6 (by intro k hk hlt; simp [Value.ownBlock] at hk; omega)
    have hz6 := hz.fr hF6 (fun _ _ e => e)
    have hN6 : NetR w6 (w3.heap.size + 1) (.slice none 0 0) [] 0 0 0 := by
      have h := net_new (w3.alloc (.cells #[.int .i64 0, .int .i64 0, .slice none 0 0] 29))
      simp only [World.size_alloc] at h
      refine h.nil ?_
      refine ((Fr.refl Nil _).alloc _).grown hg6 (by intro k hk hlt; simp [Value.ownBlock] at hk hlt; omega)
    have hVb : (Value.slice V n cp).ownBlock ≠ some (w3.heap.size + 1) := own_ne hown6 hN6.blk (by decide)
    have hVlo : ∀ k, (Value.slice V n cp).ownBlock = some k → w.heap.size ≤ k := by
      intro k hk
      rcases hat6 with e | e <;> rw [e] at hk <;> simp [Value.ownBlock] at hk <;> omega
    have hblo : w.heap.size ≤ w3.heap.size + 1 := by omega
    generalize w3.heap.size + 1 = b at *
    clear hg6 hat6 hF1 hF2 hF3 hz3 hs3 hF03
    go_wp2_with (go_at_call 8; refine (Send_ok _ _ _ _ _ _ 0 1 V n cp z _ hN6 (Reads.of_own hown6) (by decide) (by decide) (by decide) (by omega) (by simp) (by omega) (by omega) (by omega)).mono ?_; rintro e w7 ⟨rfl, hF7, v7, A7, c7, hN7, hM7, hfr7⟩)
    have hb7 := hN6.blk.lt
    have hin7 : w7.ownsRow 0 5 1 (.slice V n cp) n (bytes z) := own_fr hown6 hF7 (by
      rintro k hk (rfl | e)
      · exact hVb hk
      · cases e)
    have hVlt : ∀ k, (Value.slice V n cp).ownBlock = some k → k < w6.heap.size := fun k hk => own_lt hown6 hk
    have hF7' : Fr Nil w w7 := hF6.trans hF7 (by
      rintro k hk (rfl | e)
      · omega
      · cases e)
    have hV7 : ∀ k, v7.ownBlock = some k → w6.heap.size ≤ k := fun k hk => (hM7 k hk).elim (fun e => by cases e) id
    obtain ⟨hl7, hl7b⟩ := hN7.lets _ (List.mem_singleton.2 rfl)
    have hS0 : Scr w7 (.slice V n cp) n w7 := ⟨z, hin7, Fr.refl _ _⟩
    have HS := Lib.hid hS0
    clear hin7 hS0 hown6 hF7 hM7 hN6
    go_loopw [54] (fun q wr => ∃ k : Nat, k ≤ n ∧ q = .int .i64 k ∧ Scr w7 (.slice V n cp) n wr) (fun q _ => n - (intOf q).toNat)
    case atStart => exact ⟨0, Nat.zero_le _, rfl, HS.out⟩
    case round =>
      obtain ⟨k, hk, rfl, xs, hown, hFr⟩ := hrel
      by_cases hlt : k < n
      · obtain ⟨g, cp', hv, _, _⟩ := hown.form (by omega)
        injection hv with hv1 hv2 hv3
        subst hv1 hv3
        have hxl : k < xs.length := by have := hown.1; simp [bytes] at this; omega
        have e0 := hown.cellAt k (by omega)
        rw [show (bytes xs)[k]? = some (.int .u8 xs[k]) from by simp [bytes, hxl]] at e0
        have e1 := hown.frozenAt k
        have hlti : (k : Int) < (n : Int) := by omega
        have hkp : (0 : Int) ≤ (k : Int) := by omega
        go_wp2
        go_roundw
        case rel => exact ⟨k + 1, by omega, by go_num, scr_set hown hFr⟩
        case measure => simp [intOf]; omega
      · obtain rfl : n = k := by omega
        obtain ⟨wo, rfl⟩ : ∃ wo : World, wo = wr := ⟨_, rfl⟩
        have hVs : ∀ g, (Value.slice V n cp).ownBlock = some g → g ≠ b := fun g hg e => hVb (by rw [hg, e])
        have hNr := hN7.fr hFr (fun e => hVs _ e rfl) (fun g hg e => by have := hV7 g hg; have := hVlt g e; omega) (fun x hx g hg e => by
          obtain rfl : x = ⟨0, 1, A7, n, c7, z⟩ := List.mem_singleton.1 hx
          have := hfr7 g hg
          have := hVlt g e
          omega)
        have hFw : Fr Nil w wo := hF7'.trans hFr (fun g hg e => by have := hVlo g e; omega)
        clear hFr hown hF7' hN7
        go_wp2_with (go_at_call 15; refine (Peek_some hNr 0 _ rfl (by simp) (by simp; omega)).mono ?_; rintro e w8 ⟨⟨P8, cp8, rfl, hown8, hfr8⟩, hF8⟩; simp only at hown8)
        have hL := Blk.new w8 29 #[.int .i64 0, .int .i64 1, .slice P8 n cp8]
        have hO := hown8.alloc (.cells #[.int .i64 0, .int .i64 1, .slice P8 n cp8] 29)
        have hF9 : Fr Nil wo (w8.alloc (.cells #[.int .i64 0, .int .i64 1, .slice P8 n cp8] 29)) := hF8.alloc _
        have hN9 := hNr.nil hF9
        have hPlo : ∀ g, (Value.slice P8 n cp8).ownBlock = some g → wo.heap.size ≤ g := by
          intro g hg
          cases P8 with
          | none => simp [Value.ownBlock] at hg
          | some ad => exact hfr8 g hg
        have hPq : (Value.slice P8 n cp8).ownBlock ≠ some w8.heap.size := own_ne hO hL (by decide)
        have hNlt : b < wo.heap.size ∧ ∀ g, v7.ownBlock = some g → g < wo.heap.size := ⟨hNr.blk.lt, fun g hg => own_lt hNr.own hg⟩
        have hNl : ∀ g, blockOf A7 = some g → g < wo.heap.size := fun g hg => ((hNr.lets _ (List.mem_singleton.2 rfl)).2 g hg).1
        clear hNr hF8 hown8 hfr8
        generalize w8.alloc (.cells #[.int .i64 0, .int .i64 1, .slice P8 n cp8] 29) = w9 at *
        generalize w8.heap.size = q at *
        have m2 := hL.cell 2
        simp at m2
        have hS9 : Scr w9 (.slice P8 n cp8) n w9 := ⟨z, hO, Fr.refl _ _⟩
        have HS9 := Lib.hid hS9
        clear hS9 HS
        go_wp2
        clear m2
        go_loopw [72] (fun j wx => ∃ k : Nat, k ≤ n ∧ j = .int .i64 k ∧ Scr w9 (.slice P8 n cp8) n wx) (fun j _ => n - (intOf j).toNat)
        case atStart => exact ⟨0, Nat.zero_le _, rfl, HS9.out⟩
        case round =>
          obtain ⟨k, hk, rfl, xs, hown, hFr⟩ := hrel
          have hLx := hL.fr hFr hPq
          have m2 := hLx.cell 2
          simp at m2
          by_cases hlt : k < n
          · obtain ⟨g, cp', hv, _, _⟩ := hown.form (by omega)
            injection hv with hv1 hv2 hv3
            subst hv1 hv3
            have hxl : k < xs.length := by have := hown.1; simp [bytes] at this; omega
            have e0 := hown.cellAt k (by omega)
            rw [show (bytes xs)[k]? = some (.int .u8 xs[k]) from by simp [bytes, hxl]] at e0
            have e1 := hown.frozenAt k
            have hlti : (k : Int) < (n : Int) := by omega
            have hkp : (0 : Int) ≤ (k : Int) := by omega
            go_wp2
            go_roundw
            case rel => exact ⟨k + 1, by omega, by go_num, scr_set hown hFr⟩
            case measure => simp [intOf]; omega
          · obtain rfl : n = k := by omega
            have hNx := hN9.fr hFr (fun e => by have := hPlo _ e; omega) (fun g hg e => by have := hPlo _ e; have := hNlt.2 g hg; omega) (fun x hx g hg e => by
              obtain rfl : x = ⟨0, 1, A7, n, c7, z⟩ := List.mem_singleton.1 hx
              have := hPlo _ e
              have := hNl g hg
              omega)
            have hws := hFw.size
            have hFx : Fr Nil w wr := (hFw.trans hF9 (fun _ _ e => e)).trans hFr (fun g hg e => by have := hPlo _ e; omega)
            have hrA := (hNx.lets _ (List.mem_singleton.2 rfl)).1
            have hbA := (hNx.lets _ (List.mem_singleton.2 rfl)).2
            have hzx := hz.fr hFx (fun _ _ e => e)
            have hNS : ∀ g, NetS b v7 g → w.heap.size ≤ g := by
              rintro g (rfl | e)
              · omega
              · have := hV7 g e
                have := hF6.size
                omega
            clear hown hFr hLx m2 HS9
            go_wp2_with (first | (go_at_call 11; refine (Deliver_some hNx 0 _ rfl (by simp) (by omega) (by omega)).mono ?_; rintro e w10 ⟨rfl, hF10, _⟩) | (go_at_call 8; refine (Send_nil _ _ _ _ _ _).mono ?_; rintro e w11 ⟨rfl, hF11⟩) | (go_at_call 10; refine (Len_nil _).mono ?_; rintro e w' ⟨rfl, rfl⟩) | (go_at_call 12; refine (Drop_nil _ _).mono ?_; rintro e w' ⟨rfl, rfl⟩) | (go_at_call 9; refine (Double_nil _ _).mono ?_; rintro e w12 ⟨rfl, hF12⟩; have g2 := (((Blk.new w10 29 #[.int .i64 0, .int .i64 1, .slice A7 n c7]).fr hF11 (fun e => e)).fr hF12 (fun e => e)).cell 2; simp at g2; have s1 := run_str (P := Try.prog) w12 27 9 5 Try.underlying27 Try.underlying5 Try.underlying9 A7 n c7 z (((((hrA.fr hF10 (fun g hg e => by have := hbA g hg; rcases e with e | e; exact this.2.1 e; exact this.2.2 e)).fr ((Fr.refl Nil _).alloc _) (fun _ _ e => e)).fr hF11 (fun _ _ e => e)).fr hF12 (fun _ _ e => e))); have s2 := run_str (P := Try.prog) w12 27 9 5 Try.underlying27 Try.underlying5 Try.underlying9 A n cap z (hz.fr ((((hFx.trans hF10 (fun g hg e => by have := hNS g e; omega)).alloc _).trans hF11 (fun _ _ e => e)).trans hF12 (fun _ _ e => e)) (fun _ _ e => e))))
            go_ret
            exact ⟨rfl, (((hFx.trans hF10 (fun g hg e => by have := hNS g e; omega)).alloc _).trans hF11 (fun _ _ e => e)).trans hF12 (fun _ _ e => e)⟩

end Go.Proofs.Ythlflbmhdabfeaa
