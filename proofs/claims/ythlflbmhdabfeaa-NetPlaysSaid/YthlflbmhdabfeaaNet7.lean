import Derived.Test.YthlflbmhdabfeaaNet6
import Derived.Lib.SlBytesConst
namespace Go.Proofs.Ythlflbmhdabfeaa
open Go.RowKit
attribute [local go_sem ↓] Go.wp_at_zero Go.wp_at_succ

set_option maxHeartbeats 1600000 in
theorem Awake_any (w : World) : Calls Try.prog 6 #[] w fun e w' => e = .returned (.bool true) ∧ Fr Nil w w' := by
  have kc := Lib.run_convert_bytes_const (P := Try.prog) (w.alloc (.cells #[.slice none 0 0, .int .i64 0, .int .i64 0, .int .i64 0] 46)) 27 5 #[.int .u8 120] 1 1 Try.underlying27 Try.underlying5
  have hsz : (w.alloc (.cells #[.slice none 0 0, .int .i64 0, .int .i64 0, .int .i64 0] 46)).heap.size = w.heap.size + 1 := by simp
  rw [hsz] at kc
  go_enter Try.func6, Try.ntmps6
  go_wp2_with (go_at_call 7; refine (New_any _).mono ?_; rintro e w1 ⟨rfl, rfl⟩)
  have hN0 := (net_new w).nil ((Fr.refl Nil _).alloc (.cells #[.int .u8 120] 5 (1, 2)))
  have hF0 : Fr Nil w ((w.alloc (.cells #[.slice none 0 0, .int .i64 0, .int .i64 0, .int .i64 0] 46)).alloc (.cells #[.int .u8 120] 5 (1, 2))) := ((Fr.refl Nil w).alloc _).alloc _
  have hr0 : Reads ((w.alloc (.cells #[.slice none 0 0, .int .i64 0, .int .i64 0, .int .i64 0] 46)).alloc (.cells #[.int .u8 120] 5 (1, 2))) 1 (some ⟨w.heap.size + 1, 0, none⟩) 1 (bytes [120]) := by
    refine ⟨rfl, fun _ => ⟨_, rfl, fun j u hu => ?_⟩⟩
    match j, hu with
    | 0, hu =>
      simp [bytes] at hu
      subst hu
      have h := cell_of_row ((w.alloc (.cells #[.slice none 0 0, .int .i64 0, .int .i64 0, .int .i64 0] 46)).alloc (.cells #[.int .u8 120] 5 (1, 2))) (w.heap.size + 1) 0 #[.int .u8 120] 5 (1, 2) (by rw [← hsz]; exact heap_alloc_new _ _)
      simpa [add_none] using h
  clear kc hsz
  refine (Send_ok _ _ _ _ _ _ 3 0 _ 1 1 [120] _ hN0 hr0 (by decide) (by decide) (by decide) (by omega) (by simp) (by omega) (by omega) (by omega)).mono ?_
  rintro e w1 ⟨rfl, hF1, v1, A1, cp1, hN1, hM1, _⟩
  generalize hb : w.heap.size = b at *
  go_wp2_with fail
  refine (Double_some hN1 0 _ rfl (by simp) (by simp)).mono ?_
  rintro e w2 ⟨rfl, hF2, v2, A2, cp2, hN2, hM2, _⟩
  go_wp2_with fail
  refine (Drop_some hN2 0 _ rfl (by simp) (by omega) (by omega)).mono ?_
  rintro e w3 ⟨rfl, hF3, v3, hN3, hM3⟩
  go_wp2_with fail
  refine (Deliver_some hN3 0 _ rfl (by simp) (by omega) (by omega)).mono ?_
  rintro e w4 ⟨rfl, hF4, v4, hN4, hM4⟩
  obtain ⟨hr3, hb3⟩ := hN3.lets _ (List.mem_singleton.2 rfl)
  have hr4 := hr3.fr hF4 (fun k hk e => by
    obtain ⟨_, h2, h3⟩ := hb3 k hk
    rcases e with e | e
    · exact h2 e
    · exact h3 e)
  have hst : ∀ o, (convert 27 9 (.slice A2 1 cp2)).run Try.prog (w4.alloc o) = .ok (.string ⟨#[120]⟩) (w4.alloc o) := fun o =>
    run_str _ _ _ _ Try.underlying27 Try.underlying5 Try.underlying9 A2 1 cp2 [120] (hr4.fr ((Fr.refl Nil _).alloc o) (fun _ _ e => e))
  go_wp2_with (go_at_call 10; refine (hN4.nil ((Fr.refl Nil _).alloc _)).len.mono ?_; rintro e w' ⟨rfl, rfl⟩)
  go_ret
  refine ⟨rfl, ?_⟩
  have hbw : ∀ k, NetS b (.slice none 0 0) k → k = b := by
    rintro k (h | h)
    · exact h
    · cases h
  have q1 : Fr (fun k => b ≤ k) w w1 := (hF0.mono (fun _ _ e => False.elim e)).trans hF1 (fun k _ e => Nat.le_of_eq (hbw k e).symm)
  have z1 := hF0.size
  have z2 := hF1.size
  have z3 := hF2.size
  have z4 := hF3.size
  have hv1 : ∀ k, NetS b v1 k → b ≤ k := by
    rintro k (h | h)
    · omega
    · rcases hM1 k h with h | h
      · cases h
      · omega
  have hv2 : ∀ k, NetS b v2 k → b ≤ k := by
    rintro k (h | h)
    · omega
    · rcases hM2 k h with h | h
      · exact hv1 k (.inr h)
      · omega
  have hv3 : ∀ k, NetS b v3 k → b ≤ k := by
    rintro k (h | h)
    · omega
    · rcases hM3 k h with h | h
      · exact hv2 k (.inr h)
      · omega
  have q4 : Fr (fun k => b ≤ k) w w4 := ((q1.trans hF2 (fun k _ e => hv1 k e)).trans hF3 (fun k _ e => hv2 k e)).trans hF4 (fun k _ e => hv3 k e)
  exact (q4.alloc _).mono (fun k hk e => by omega)

end Go.Proofs.Ythlflbmhdabfeaa
