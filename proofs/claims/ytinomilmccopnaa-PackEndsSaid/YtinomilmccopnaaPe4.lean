/- PackEnds: the four readings. -/
import Derived.Test.YtinomilmccopnaaPe2
import Derived.Test.YtinomilmccopnaaTh6
namespace Go.Proofs.Ytinomilmccopnaa
open Go.RowKit
attribute [local irreducible] Go.Calls Go.Exit.then Go.Exit.inBlock Go.bodyPost Go.Code.wp Go.wpList

theorem first_read {w0 w : World} {TA : Option Addr} {N tc k lb db c3 : Nat} {xs : List Th} {bs : List Int} {V : Option Addr} (hT : ThsIs w0 TA N xs) (hsm : ∀ x ∈ xs, x.m ≤ 100) (hbs : xs.flatMap thB = bs) (hN : N ≤ 100) (hr : Reads w 1 V bs.length (bytes bs)) (hbl : bs.length ≤ 10000) (hk : k ≤ bs.length)
    (hcc : bs.length ≤ c3) (hcm : c3 ≤ maxLen) (hF : Fr Nil w0 w) (hdb0 : w0.heap.size ≤ db) (hL : Blk w lb 63 #[.slice TA N tc]) (hD : Blk w db 3 #[.int .i64 0]) :
    Calls Try.prog 24 #[.slice V k c3, .func (.func 29) #[] #[.pointer (some ⟨lb, 0, none⟩), .pointer (some ⟨db, 0, none⟩)]] w
      (fun e w' => ∃ (c : Int) (d : Nat), e = .returned (.int .i64 c) ∧ Fr (fun g => g = db) w w' ∧ Blk w' db 3 #[.int .i64 d] ∧ (c = 0 ∧ k = bs.length ∧ d = N ∨ c = 3 ∧ k < bs.length ∧ d < N)) := by
  have hm : ∀ x ∈ xs, x.m ≤ 1000000 := fun x hx => by have := hsm x hx; omega
  have hdl := hD.lt
  by_cases hkl : k = bs.length
  · subst hkl
    refine (Read_left (rest := []) (U := fun g => g = db) (G := fun W => Blk W db 3 #[.int .i64 N]) call_ends1 hr hcc hcm (fun g e => by rw [e]; exact hdl) (fun w1 hF1 _ hR => ?_) (fun w2 w' hf h => h.fr hf (by rintro (e | e) <;> omega))).mono ?_
    · refine ends_left (by rw [hbs, List.append_nil]; exact hR) (fun x hx => by cases hx) (by omega) hT hm (by omega) (hF.nil2 hF1) (by have := hF.size; omega) hdb0 (hL.fr hF1 (fun e => e)) (hD.fr hF1 (fun e => e))
    · rintro e w' ⟨rfl, h1, h2⟩
      exact ⟨0, N, rfl, h1, h2, .inl ⟨rfl, rfl, rfl⟩⟩
  · have hr' : Reads w 1 V k (bytes (bs.take k)) := by
      have h := hr.take (k := k) hk
      rw [Nat.mul_one] at h
      rwa [show bytes (bs.take k) = (bytes bs).take k from by simp [bytes]]
    refine (Read_died (c := 3) (U := fun g => g = db) (G := fun W => ∃ d : Nat, d < N ∧ Blk W db 3 #[.int .i64 d]) call_ends1 hr' (by omega) hcm (fun g e => by rw [e]; exact hdl) (fun w1 hF1 _ hR => ?_) (fun w2 w' hf ⟨d, hd, h⟩ => ⟨d, hd, h.fr hf (by rintro (e | e) <;> omega)⟩)).mono ?_
    · refine ends_died (xs := xs) (n := k) (by rw [hbs]; exact hR) (by rw [hbs]; omega) (by omega) hT hm (by omega) (hF.nil2 hF1) (by have := hF.size; omega) hdb0 (hL.fr hF1 (fun e => e)) (hD.fr hF1 (fun e => e))
    · rintro e w' ⟨rfl, h1, d, hd, h2⟩
      exact ⟨3, d, rfl, h1, h2, .inr ⟨rfl, by omega, hd⟩⟩

theorem second_read {w : World} {mb bb c3 : Nat} {bs : List Int} {V : Option Addr} {many : Int} (hr : Reads w 1 V bs.length (bytes bs)) (hbl : bs.length ≤ 10000) (hcc : bs.length ≤ c3) (hcm : c3 ≤ maxLen) (hM : Blk w mb 3 #[.int .i64 many]) (hB : Blk w bb 4 #[.bool false]) :
    Calls Try.prog 24 #[.slice V bs.length c3, .func (.func 31) #[] #[.pointer (some ⟨mb, 0, none⟩), .pointer (some ⟨bb, 0, none⟩)]] w
      (fun e w' => ∃ (c : Int) (b : Bool), e = .returned (.int .i64 c) ∧ Fr (fun g => g = bb) w w' ∧ Blk w' bb 4 #[.bool b] ∧ (many = bs.length ∧ c = 0 ∧ b = true ∨ 0 ≤ many ∧ many < bs.length ∧ c = 27 ∧ b = true ∨ (many < 0 ∨ (bs.length : Int) < many) ∧ c = 3 ∧ b = false)) := by
  have hdl := hB.lt
  by_cases hin : 0 ≤ many ∧ many ≤ bs.length
  · obtain ⟨k, rfl⟩ : ∃ k : Nat, many = k := ⟨many.toNat, by omega⟩
    have hk : k ≤ bs.length := by omega
    refine (Read_left (rest := bs.drop k) (U := fun g => g = bb) (G := fun W => Blk W bb 4 #[.bool true]) call_ends2 hr hcc hcm (fun g e => by rw [e]; exact hdl) (fun w1 hF1 _ hR => ?_) (fun w2 w' hf h => h.fr hf (by rintro (e | e) <;> omega))).mono ?_
    · exact ends2_left hR hk (by omega) (hM.fr hF1 (fun e => e)) (hB.fr hF1 (fun e => e))
    · rintro e w' ⟨rfl, h1, h2⟩
      by_cases hkl : k = bs.length
      · exact ⟨_, true, rfl, h1, h2, .inl ⟨by rw [hkl], by simp [endCode, hkl], rfl⟩⟩
      · refine ⟨_, true, rfl, h1, h2, .inr (.inl ⟨by omega, by omega, ?_, rfl⟩)⟩
        unfold endCode
        rw [if_neg]
        intro h
        have := congrArg List.length h
        simp at this
        omega
  · refine (Read_died (c := 3) (U := fun g => g = bb) (G := fun W => Blk W bb 4 #[.bool false]) call_ends2 hr hcc hcm (fun g e => by rw [e]; exact hdl) (fun w1 hF1 _ hR => ?_) (fun w2 w' hf h => h.fr hf (by rintro (e | e) <;> omega))).mono ?_
    · exact ends2_died hR (by omega) (hM.fr hF1 (fun e => e)) (hB.fr hF1 (fun e => e))
    · rintro e w' ⟨rfl, h1, h2⟩
      exact ⟨3, false, rfl, h1, h2, .inr (.inr ⟨by omega, rfl, rfl⟩)⟩

theorem third_read {w : World} {cb bb : Nat} {code : Int} (hM : Blk w cb 3 #[.int .i64 code]) (hB : Blk w bb 4 #[.bool false]) :
    Calls Try.prog 24 #[.slice none 0 0, .func (.func 33) #[] #[.pointer (some ⟨cb, 0, none⟩), .pointer (some ⟨bb, 0, none⟩)]] w
      (fun e w' => ∃ (b : Bool), e = .returned (.int .i64 code) ∧ Fr (fun g => g = bb) w w' ∧ Blk w' bb 4 #[.bool b] ∧ (code = 0 ∧ b = true ∨ code ≠ 0 ∧ b = false)) := by
  have hdl := hB.lt
  have hr : Reads w 1 none 0 (bytes []) := Reads.nil_ none
  by_cases h0 : code = 0
  · subst h0
    refine (Read_left (rest := []) (U := fun g => g = bb) (G := fun W => Blk W bb 4 #[.bool true]) call_ends3 hr (Nat.le_refl _) (by decide) (fun g e => by rw [e]; exact hdl) (fun w1 hF1 _ hR => ?_) (fun w2 w' hf h => h.fr hf (by rintro (e | e) <;> omega))).mono ?_
    · exact ends3_left hR (hM.fr hF1 (fun e => e)) (hB.fr hF1 (fun e => e))
    · rintro e w' ⟨rfl, h1, h2⟩
      exact ⟨true, rfl, h1, h2, .inl ⟨rfl, rfl⟩⟩
  · refine (Read_died (c := code) (U := fun g => g = bb) (G := fun W => Blk W bb 4 #[.bool false]) call_ends3 hr (Nat.le_refl _) (by decide) (fun g e => by rw [e]; exact hdl) (fun w1 hF1 _ hR => ?_) (fun w2 w' hf h => h.fr hf (by rintro (e | e) <;> omega))).mono ?_
    · exact ends3_died hR h0 (hM.fr hF1 (fun e => e)) (hB.fr hF1 (fun e => e))
    · rintro e w' ⟨rfl, h1, h2⟩
      exact ⟨false, rfl, h1, h2, .inr ⟨h0, rfl⟩⟩

theorem fourth_read {w : World} {sb n c3 : Nat} {bs : List Int} {V : Option Addr} {most : Int} (hr : Reads w 1 V n (bytes (le bs.length 4 ++ bs))) (hb : IsBytes bs) (hbl : bs.length ≤ 10000) (hcc : n ≤ c3) (hcm : c3 ≤ maxLen) (hmw : most ≤ 9223372036854775807) (hM : Blk w sb 3 #[.int .i64 most]) :
    Calls Try.prog 24 #[.slice V n c3, .func (.func 36) #[] #[.pointer (some ⟨sb, 0, none⟩)]] w
      (fun e w' => ∃ (c : Int), e = .returned (.int .i64 c) ∧ Fr Nil w w' ∧ ((bs.length : Int) ≤ max most 0 ∧ c = 0 ∨ max most 0 < (bs.length : Int) ∧ c = 4)) := by
  have hl := len_of_reads hr
  rw [List.length_append, le_len] at hl
  have h4 : leV ((le (bs.length : Int) 4 ++ bs).take 4) = (bs.length : Int) := by
    rw [List.take_left' (le_len _ _), leV_le _ (by omega)]
    omega
  have hib : IsBytes (le (bs.length : Int) 4 ++ bs) := (le_bytes _ _).app hb
  by_cases h : (bs.length : Int) ≤ max most 0
  · refine (Read_left (rest := []) (U := fun _ => False) (G := fun _ => True) call_ends4 hr hcc hcm (fun g e => e.elim) (fun w1 hF1 _ hR => ?_) (fun _ _ _ h => h)).mono ?_
    · have := ends4_left hR hib (by omega) hmw (by omega) h4 h (by omega) (hM.fr hF1 (fun e => e))
      rw [List.drop_left' (le_len _ _), List.drop_length] at this
      exact this
    · rintro e w' ⟨rfl, h1, _⟩
      exact ⟨0, rfl, h1, .inl ⟨h, rfl⟩⟩
  · refine (Read_died (c := 4) (U := fun _ => False) (G := fun _ => True) call_ends4 hr hcc hcm (fun g e => e.elim) (fun w1 hF1 _ hR => ?_) (fun _ _ _ h => h)).mono ?_
    · exact ends4_died hR hib (by omega) hmw (by omega) h4 (by omega) (hM.fr hF1 (fun e => e))
    · rintro e w' ⟨rfl, h1, _⟩
      exact ⟨4, rfl, h1, .inr ⟨by omega, rfl⟩⟩
end Go.Proofs.Ytinomilmccopnaa
