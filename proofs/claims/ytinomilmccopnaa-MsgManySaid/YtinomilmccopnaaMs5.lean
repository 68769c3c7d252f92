/- MsgMany: its memory; its plain law; Awake. -/
import Derived.Test.YtinomilmccopnaaMs4
namespace Go.Proofs.Ytinomilmccopnaa
open Go.RowKit
attribute [local go_sem ↓] Go.wp_at_zero Go.wp_at_succ

def zeroE : Ent := ⟨zeros 16, 0, [], [], 0⟩
def longE : Ent := ⟨zeros 16, 0, [], zeros 65537, 0⟩
def mm (k : Int) (es : List Ent) : Msg := ⟨k, 0, 0, 0, zeros 16, 0, es⟩

theorem firstBad_rep (n : Nat) : firstBad (List.replicate n zeroE) = 0 := by
  induction n with
  | zero => rfl
  | succ n ih => rw [List.replicate_succ]; unfold firstBad; rw [if_pos (by decide)]; exact ih
theorem encEs_rep (n : Nat) : (encEs (List.replicate n zeroE)).length = n * 31 := by
  induction n with
  | zero => rfl
  | succ n ih =>
    have h : (encE zeroE).length = 31 := by decide
    simp only [encEs, List.replicate_succ, List.map_cons, List.flatten_cons, List.length_append, h] at ih ⊢
    omega
theorem mm_len (k : Int) (es : List Ent) : (encM (mm k es)).length = 34 + (encEs es).length := by
  simp [encM, encH, mm, le_len, zeros]
  omega
theorem mm_check (k : Int) (hk : k = 2 ∨ k = 4) (es : List Ent) (hn : es.length ≤ 256) : msgCheck (mm k es) = firstBad es := by
  unfold msgCheck
  have h1 : ¬ (256 : Int) < (es.length : Int) := by omega
  rcases hk with rfl | rfl <;> simp [mm, h1]
theorem mm_many (k : Int) (hk : k = 2 ∨ k = 4) (es : List Ent) (hn : 256 < es.length) : msgCheck (mm k es) = 5 := by
  unfold msgCheck
  have h1 : (256 : Int) < (es.length : Int) := by omega
  rcases hk with rfl | rfl <;> simp [mm, h1]
theorem longE_check : entCheck longE = 4 := by
  unfold entCheck longE
  simp only [zeros, List.length_replicate]
  decide
theorem firstBad_long (n : Nat) : firstBad (List.replicate 3 zeroE ++ longE :: List.replicate n zeroE) = 4 := by
  have h0 : entCheck zeroE = 0 := by decide
  simp [List.replicate, firstBad, h0, longE_check]

set_option maxHeartbeats 800000 in
theorem Awake20 (w : World) : Calls Try.prog 20 #[] w fun e w' => e = .returned (.bool true) ∧ Fr Nil w w' := by
  have hE := Encode_ok (w := w) (A := none) (n := 0) (c := 0) (mm 4 []) ⟨rfl, fun h => absurd h (by omega)⟩ rfl (by rw [mm_check 4 (.inr rfl) [] (by simp)]; rfl) (by decide) (by decide) (by intro e he; cases he)
  have hl : (encM (mm 4 [])).length = 34 := by rw [mm_len]; rfl
  generalize encM (mm 4 []) = bs at *
  rw [hl] at hE
  rw [show (msgCells (mm 4 []) none 0 0).toArray = #[.int .u8 4, .int .u64 0, .int .u64 0, .int .i64 0, .int .u8 0, .int .u8 0, .int .u8 0, .int .u8 0, .int .u8 0, .int .u8 0, .int .u8 0, .int .u8 0, .int .u8 0, .int .u8 0, .int .u8 0, .int .u8 0, .int .u8 0, .int .u8 0, .int .u8 0, .int .u8 0, .int .i64 0, .slice none 0 0] from rfl] at hE
  go_enter Try.func20, Try.ntmps20
  go_wp2_with (go_at_call 21; refine hE.mono ?_; rintro e w1 ⟨P, cp, rfl, hO, hF⟩)
  go_ret
  exact ⟨rfl, hF⟩

/-- The fourth entry's share is set. -/
theorem ents_set {w W : World} {g g2 n : Nat} (h : EntsIs w (some ⟨g, 0, none⟩) n (List.replicate n zeroE)) (h4 : 4 ≤ n) (hF : Fr Nil w W) (hr : Reads W 1 (some ⟨g2, 0, none⟩) 65537 (bytes (zeros 65537))) (hgg : g2 ≠ g) :
    EntsIs (W.setCell ⟨g, 78, none⟩ (.slice (some ⟨g2, 0, none⟩) 65537 65537)) (some ⟨g, 0, none⟩) n (List.replicate 3 zeroE ++ longE :: List.replicate (n - 4) zeroE) := by
  have hW := h.fr hF
  obtain ⟨ad, hA, hj⟩ := hW.2 (by omega)
  obtain rfl : (⟨g, 0, none⟩ : Addr) = ad := Option.some.inj hA
  refine ⟨by simp; omega, fun _ => ⟨_, rfl, fun j e he => ?_⟩⟩
  have hjn : j < n := by
    have := (List.getElem?_eq_some_iff.1 he).1
    simp at this
    omega
  obtain ⟨cs, hE, hc⟩ := hj j zeroE (by simp [hjn])
  have hcl := hE.cells
  obtain ⟨⟨A, a, c, B, b, d, rfl, h1, h2⟩, hl⟩ := hE
  have a0 : a = 0 := (len_of_reads h1).symm
  have b0 : b = 0 := (len_of_reads h2).symm
  subst a0 b0
  have hcell : ∀ k v, (entCells zeroE A 0 c B 0 d)[k]? = some v → W.cell? ⟨g, j * 20 + k, none⟩ = some v := by
    intro k v hv
    have := hc k v hv
    rw [add_none, add_none, Nat.zero_add] at this
    exact this
  by_cases h3 : j = 3
  · subst h3
    obtain rfl : longE = e := by simpa using he
    refine ⟨entCells longE A 0 c (some ⟨g2, 0, none⟩) 65537 65537, ⟨⟨A, 0, c, some ⟨g2, 0, none⟩, 65537, 65537, rfl, Reads.nil_ _, hr.fr ((Fr.refl (fun k => k = g) W).setCell (.inr rfl) _) (by intro k hk e; simp [blockOf] at hk; omega)⟩, rfl⟩, fun k v hv => ?_⟩
    rw [add_none, add_none, Nat.zero_add]
    have hk : k < 20 := (List.getElem?_eq_some_iff.1 hv).1
    by_cases hk18 : k = 18
    · subst hk18
      obtain rfl : Value.slice (some ⟨g2, 0, none⟩) 65537 65537 = v := Option.some.inj hv
      exact World.cell?_setCell_same _ _ _ (hcell 18 (.slice B 0 d) rfl)
    · rw [World.cell?_setCell_other _ _ _ _ (by intro e; injection e with e1 e2 e3; omega)]
      apply hcell
      rw [← hv]
      match k, hk, hk18 with
      | 0, _, _ | 1, _, _ | 2, _, _ | 3, _, _ | 4, _, _ | 5, _, _ | 6, _, _ | 7, _, _ | 8, _, _ | 9, _, _ | 10, _, _ | 11, _, _ | 12, _, _ | 13, _, _ | 14, _, _ | 15, _, _ | 16, _, _ | 17, _, _ | 19, _, _ => rfl
  · obtain rfl : zeroE = e := by
      rcases Nat.lt_or_ge j 3 with hlt | hge
      · rw [List.getElem?_append_left (by simpa using hlt), List.getElem?_replicate, if_pos hlt] at he
        exact Option.some.inj he
      · rw [List.getElem?_append_right (by simpa using hge)] at he
        obtain ⟨i, hi⟩ : ∃ i, j - (List.replicate 3 zeroE).length = i + 1 := ⟨j - 4, by simp; omega⟩
        rw [hi, List.getElem?_cons_succ, List.getElem?_replicate] at he
        split at he
        · exact Option.some.inj he
        · cases he
    refine ⟨entCells zeroE A 0 c B 0 d, ⟨⟨A, 0, c, B, 0, d, rfl, Reads.nil_ _, Reads.nil_ _⟩, rfl⟩, fun k v hv => ?_⟩
    have hk : k < 20 := by have := (List.getElem?_eq_some_iff.1 hv).1; omega
    rw [add_none, add_none, Nat.zero_add, World.cell?_setCell_other _ _ _ _ (by intro e; injection e with e1 e2 e3; omega)]
    exact hcell k v hv

end Go.Proofs.Ytinomilmccopnaa
