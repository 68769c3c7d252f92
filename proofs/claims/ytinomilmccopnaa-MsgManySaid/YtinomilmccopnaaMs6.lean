/- MsgMany: its walk. -/
import Derived.Test.YtinomilmccopnaaMs5
import Derived.Test.YtinomilmccopnaaReg
import Derived.Laws.MakeOwn
import Derived.Laws.OwnMore
namespace Go.Proofs.Ytinomilmccopnaa
open Go.RowKit
attribute [local go_sem ↓] Go.wp_at_zero Go.wp_at_succ

def zE : Array Value := #[.int .u8 0, .int .u8 0, .int .u8 0, .int .u8 0, .int .u8 0, .int .u8 0, .int .u8 0, .int .u8 0, .int .u8 0, .int .u8 0, .int .u8 0, .int .u8 0, .int .u8 0, .int .u8 0, .int .u8 0, .int .u8 0, .int .u64 0, .slice none 0 0, .slice none 0 0, .int .i64 0]
theorem Try.infoEntry : (Try.prog.info? 50).map (fun i => (i.zero, i.size, i.bytes)) = some (some (.agg #[.int .u8 0, .int .u8 0, .int .u8 0, .int .u8 0, .int .u8 0, .int .u8 0, .int .u8 0, .int .u8 0, .int .u8 0, .int .u8 0, .int .u8 0, .int .u8 0, .int .u8 0, .int .u8 0, .int .u8 0, .int .u8 0, .int .u64 0, .slice none 0 0, .slice none 0 0, .int .i64 0]), 20, 80) := by kernel_rfl

theorem madeCells_at (z : Array Value) (n j k : Nat) (hj : j < n) (hk : k < z.size) : (madeCells z (n * z.size))[j * z.size + k]? = z[k]? := by
  have hlt : j * z.size + k < n * z.size := by
    have h1 : (j + 1) * z.size ≤ n * z.size := Nat.mul_le_mul_right _ (by omega)
    rw [Nat.succ_mul] at h1
    omega
  have hm : (j * z.size + k) % z.size = k := by
    rw [Nat.mul_comm, Nat.mul_add_mod, Nat.mod_eq_of_lt hk]
  simp [madeCells, hlt, hm, hk]

theorem ents_make (W : World) (n : Nat) : EntsIs (W.alloc (.cells (madeCells zE (n * 20)) 50)) (some ⟨W.heap.size, 0, none⟩) n (List.replicate n zeroE) := by
  refine ⟨by simp, fun _ => ⟨_, rfl, fun j e he => ?_⟩⟩
  obtain ⟨hj, rfl⟩ := List.getElem?_eq_some_iff.1 he
  rw [List.length_replicate] at hj
  refine ⟨entCells zeroE none 0 0 none 0 0, ⟨⟨none, 0, 0, none, 0, 0, by simp, by simpa [zeroE, bytes] using Reads.nil_ (none : Option Addr), by simpa [zeroE, bytes] using Reads.nil_ (none : Option Addr)⟩, by simp [zeroE, zeros]⟩, fun k v hv => ?_⟩
  have hk : k < 20 := (List.getElem?_eq_some_iff.1 hv).1
  rw [add_none, add_none, Nat.zero_add, (Blk.new W _ _).cell]
  have h := madeCells_at zE n j k hj hk
  rw [show zE.size = 20 from rfl] at h
  rw [h]
  rw [show entCells zeroE none 0 0 none 0 0 = zE.toList from rfl] at hv
  simpa using hv

theorem mm_lit (k : Int) (es : List Ent) (A : Option Addr) (n : Nat) : (msgCells (mm k es) A n n).toArray = #[.int .u8 k, .int .u64 0, .int .u64 0, .int .i64 0, .int .u8 0, .int .u8 0, .int .u8 0, .int .u8 0, .int .u8 0, .int .u8 0, .int .u8 0, .int .u8 0, .int .u8 0, .int .u8 0, .int .u8 0, .int .u8 0, .int .u8 0, .int .u8 0, .int .u8 0, .int .u8 0, .int .i64 0, .slice A n n] := rfl
theorem mm_sum (k : Int) (es : List Ent) : (mm k es).sum.length = 16 := rfl

theorem bad_at {w : World} {A : Option Addr} {n : Nat} (es : List Ent) (z : Int) (h : EntsIs w A n es) (hz : msgCheck (mm 2 es) = z) (h0 : ¬ z = 0) :
    Calls Try.prog 21 #[.agg #[.int .u8 2, .int .u64 0, .int .u64 0, .int .i64 0, .int .u8 0, .int .u8 0, .int .u8 0, .int .u8 0, .int .u8 0, .int .u8 0, .int .u8 0, .int .u8 0, .int .u8 0, .int .u8 0, .int .u8 0, .int .u8 0, .int .u8 0, .int .u8 0, .int .u8 0, .int .u8 0, .int .i64 0, .slice A n n]] w fun e w' => e = .returned (.tuple #[.slice none 0 0, .int .i64 z]) ∧ Fr Nil w w' := by
  have hE := Encode_bad (c := n) (mm 2 es) h (mm_sum 2 es) (by rw [hz]; exact h0)
  rw [hz, mm_lit] at hE
  exact hE
theorem ok_at {w : World} {A : Option Addr} {n : Nat} (es : List Ent) (L : Nat) (h : EntsIs w A n es) (hz : msgCheck (mm 2 es) = 0) (ht : ∀ e ∈ es, 0 ≤ e.time) (hL : (encM (mm 2 es)).length = L) :
    Calls Try.prog 21 #[.agg #[.int .u8 2, .int .u64 0, .int .u64 0, .int .i64 0, .int .u8 0, .int .u8 0, .int .u8 0, .int .u8 0, .int .u8 0, .int .u8 0, .int .u8 0, .int .u8 0, .int .u8 0, .int .u8 0, .int .u8 0, .int .u8 0, .int .u8 0, .int .u8 0, .int .u8 0, .int .u8 0, .int .i64 0, .slice A n n]] w fun e w' => ∃ P cp, e = .returned (.tuple #[.slice P L cp, .int .i64 0]) ∧ Fr Nil w w' := by
  have hE := Encode_ok (c := n) (mm 2 es) h (mm_sum 2 es) hz (Int.le_refl 0) (Int.le_refl 0) ht
  rw [hL, mm_lit] at hE
  exact hE.mono fun e w' ⟨P, cp, h1, _, h3⟩ => ⟨P, cp, h1, h3⟩

theorem make_entries (N : Nat) (hN1 : N ≤ 261) (W : World) : (Instr.makeSlice 46 (.int .i64 (N : Int)) (.int .i64 (N : Int))).run Try.prog W = .ok (.slice (some ⟨W.heap.size, 0, none⟩) N N) (W.alloc (.cells (madeCells zE (N * 20)) 50)) := by
  obtain ⟨i0, hi0, hz0, hz1, hz2⟩ := info_parts Try.infoEntry
  have h := run_make (P := Try.prog) W 46 50 i0 _ Try.underlying46 hi0 hz0 .i64 .i64 (N : Int) (N : Int) (by omega) (by omega) (by rw [hz2]; omega) (by omega)
  rw [hz1] at h
  exact h

theorem make_bytes (n : Nat) (hn : n ≤ 100000) : ∃ B : Array Value, (∀ W : World, (Instr.makeSlice 40 (.int .i64 (n : Int)) (.int .i64 (n : Int))).run Try.prog W = .ok (.slice (some ⟨W.heap.size, 0, none⟩) n n) (W.alloc (.cells B 5))) ∧
    ∀ W : World, Reads (W.alloc (.cells B 5)) 1 (some ⟨W.heap.size, 0, none⟩) n (bytes (zeros n)) := by
  obtain ⟨i0, hi0, hz0, hz1, hz2⟩ := info_parts Try.info5
  refine ⟨madeCells #[.int .u8 0] n, fun W => ?_, fun W => ?_⟩
  · have h := run_make (P := Try.prog) W 40 5 i0 _ Try.underlying40 hi0 hz0 .i64 .i64 (n : Int) (n : Int) (by omega) (by omega) (by rw [hz2]; omega) (by omega)
    rw [hz1] at h
    simpa [Value.cells] using h
  · have h := Reads.of_blk (n := n) (size := 1) (Blk.new W 5 (madeCells #[.int .u8 0] n)) (by rw [size_madeCells, Nat.mul_one])
    rw [toList_madeCells_one] at h
    simpa [bytes, zeros] using h

set_option maxRecDepth 100000 in
set_option maxHeartbeats 4000000 in
theorem Many_any (a : Int) (long : Bool) (h0 : 0 ≤ a) (h1 : a ≤ 255) (w : World) :
    Calls Try.prog 4 #[.int .u8 a, .bool long] w fun e w' => e = .returned (.bool true) ∧ Fr Nil w w' := by
  obtain ⟨N, hN⟩ : ∃ N : Nat, 250 + a % 12 = (N : Int) := ⟨(250 + a % 12).toNat, by omega⟩
  have hN0 : 250 ≤ N := by omega
  have hN1 : N ≤ 261 := by omega
  have hr0 : 0 ≤ a % 12 := by omega
  have hr1 : a % 12 < 12 := by omega
  have hmk := make_entries N hN1
  have hmem := fun W => ents_make W N
  obtain ⟨M, hM⟩ : ∃ M, M = madeCells zE (N * 20) := ⟨_, rfl⟩
  rw [← hM] at hmk hmem
  clear hM
  go_enter Try.func4, Try.ntmps4
  go_wp2_with fail
  refine (Awake20 _).mono ?_
  rintro e w1 ⟨rfl, hF1⟩
  have hes := hmem w1
  clear hmem
  have hF2 : Fr Nil w (w1.alloc (.cells M 50)) := hF1.alloc _
  have hone : ∀ v ∈ (#[.int .u8 2, .int .u64 0, .int .u64 0, .int .i64 0, .int .u8 0, .int .u8 0, .int .u8 0, .int .u8 0, .int .u8 0, .int .u8 0, .int .u8 0, .int .u8 0, .int .u8 0, .int .u8 0, .int .u8 0, .int .u8 0, .int .u8 0, .int .u8 0, .int .u8 0, .int .u8 0, .int .i64 0, .slice (some ⟨w1.heap.size, 0, none⟩) N N] : Array Value).toList, v.oneCell' = true := by
    intro v hv
    simp at hv
    rcases hv with rfl | rfl | rfl | rfl | rfl | rfl <;> rfl
  have hBn : Blk ((w1.alloc (.cells M 50)).alloc (.cells #[.int .u8 0, .int .u64 0, .int .u64 0, .int .i64 0, .int .u8 0, .int .u8 0, .int .u8 0, .int .u8 0, .int .u8 0, .int .u8 0, .int .u8 0, .int .u8 0, .int .u8 0, .int .u8 0, .int .u8 0, .int .u8 0, .int .u8 0, .int .u8 0, .int .u8 0, .int .u8 0, .int .i64 0, .slice none 0 0] 48)) (w1.heap.size + 1) 48 #[.int .u8 0, .int .u64 0, .int .u64 0, .int .i64 0, .int .u8 0, .int .u8 0, .int .u8 0, .int .u8 0, .int .u8 0, .int .u8 0, .int .u8 0, .int .u8 0, .int .u8 0, .int .u8 0, .int .u8 0, .int .u8 0, .int .u8 0, .int .u8 0, .int .u8 0, .int .u8 0, .int .i64 0, .slice none 0 0] := by
    have h := Blk.new (w1.alloc (.cells M 50)) 48 #[.int .u8 0, .int .u64 0, .int .u64 0, .int .i64 0, .int .u8 0, .int .u8 0, .int .u8 0, .int .u8 0, .int .u8 0, .int .u8 0, .int .u8 0, .int .u8 0, .int .u8 0, .int .u8 0, .int .u8 0, .int .u8 0, .int .u8 0, .int .u8 0, .int .u8 0, .int .u8 0, .int .i64 0, .slice none 0 0]
    simpa using h
  have hn31 : (34 + (N : Int) * 31 == 0) = false := by simp; omega
  by_cases hbig : 256 < N
  · have hbi : (256 : Int) < (N : Int) := by omega
    go_wp2_with (first
      | (refine wpList_store_blk rfl 48 (.tmp 5) (.tmp 16) rfl _ _ rfl rfl hBn 22 (by kernel_rfl) rfl rfl hone ?_; intro w2 hB2 hG2; have b21 := hB2.cell 21; simp at b21)
      | (refine wpList_load_blk rfl 48 (.tmp 5) rfl _ rfl _ _ hB2 Try.underlying48 rfl 22 (by kernel_rfl) rfl ?_)
      | fail)
    have hF2 : Fr Nil (w1.alloc (.cells M 50)) w2 := ((Fr.refl Nil _).alloc _).trans hG2 (fun k hk e => by simp at hk; omega)
    refine (bad_at (List.replicate N zeroE) 5 (hes.fr hF2) (mm_many 2 (.inl rfl) _ (by simpa using hbig)) (by decide)).mono ?_
    rintro e w3 ⟨rfl, hF3⟩
    have c21 := (hB2.fr hF3 (fun e => e)).cell 21
    simp at c21
    clear hes hB2 b21 hBn hG2 hone hmk
    go_wp2
    go_ret
    exact ⟨ret_bool (by first | (simp; done) | (simp; omega)), ((hF1.alloc _).trans hF2 (fun _ _ e => e)).trans hF3 (fun _ _ e => e)⟩
  · have hbi : ¬ (256 : Int) < (N : Int) := by omega
    cases long with
    | false =>
      go_wp2_with (first
        | (refine wpList_store_blk rfl 48 (.tmp 5) (.tmp 16) rfl _ _ rfl rfl hBn 22 (by kernel_rfl) rfl rfl hone ?_; intro w2 hB2 hG2; have b21 := hB2.cell 21; simp at b21)
        | (refine wpList_load_blk rfl 48 (.tmp 5) rfl _ rfl _ _ hB2 Try.underlying48 rfl 22 (by kernel_rfl) rfl ?_)
          | fail)
      have hF2 : Fr Nil (w1.alloc (.cells M 50)) w2 := ((Fr.refl Nil _).alloc _).trans hG2 (fun k hk e => by simp at hk; omega)
      refine (ok_at (List.replicate N zeroE) (34 + N * 31) (hes.fr hF2) (by rw [mm_check 2 (.inl rfl) _ (by simp; omega)]; exact firstBad_rep N) (fun e he => by rw [List.eq_of_mem_replicate he]; exact Int.le_refl 0) (by rw [mm_len, encEs_rep])).mono ?_
      rintro e w3 ⟨P, cp, rfl, hF3⟩
      have c21 := (hB2.fr hF3 (fun e => e)).cell 21
      simp at c21
      clear hes hB2 b21 hBn hG2 hone hmk
      go_wp2
      go_ret
      exact ⟨ret_bool (by first | (simp; done) | (simp; omega)), ((hF1.alloc _).trans hF2 (fun _ _ e => e)).trans hF3 (fun _ _ e => e)⟩
    | true =>
      go_wp2_with (first
        | (refine wpList_store_blk rfl 48 (.tmp 5) (.tmp 16) rfl _ _ rfl rfl hBn 22 (by kernel_rfl) rfl rfl hone ?_; intro w2 hB2 hG2; have b21 := hB2.cell 21; simp at b21)
        | (refine wpList_load_blk rfl 48 (.tmp 5) rfl _ rfl _ _ hB2 Try.underlying48 rfl 22 (by kernel_rfl) rfl ?_)
          | fail)
      obtain ⟨B, hmk2, hrB⟩ := make_bytes 65537 (by omega)
      rw [show ((65537 : Nat) : Int) = 65537 from rfl] at hmk2
      have hN3 : (3 : Int) < (N : Int) := by omega
      have hws : w1.heap.size + 1 < w2.heap.size := hB2.lt
      have hF2 : Fr Nil (w1.alloc (.cells M 50)) w2 := ((Fr.refl Nil _).alloc _).trans hG2 (fun k hk e => by simp at hk; omega)
      have hFw2 : Fr Nil w w2 := (hF1.alloc _).trans hF2 (fun _ _ e => e)
      have hS2 : (w2.alloc (.cells B 5)).drew.cell? ⟨w1.heap.size + 1, 21, none⟩ = some (.slice (some ⟨w1.heap.size, 0, none⟩) N N) := by
        have := (hB2.alloc (.cells B 5)).drew.cell 21
        simpa using this
      have hne : w1.heap.size ≠ w1.heap.size + 1 := by omega
      have he1 := hes.fr hF2
      have he2 : EntsIs (w2.alloc (.cells B 5)).drew (some ⟨w1.heap.size, 0, none⟩) N (List.replicate N zeroE) := he1.fr (((Fr.refl Nil w2).alloc _).drew)
      obtain ⟨x78, hx78⟩ : ∃ x, w2.cell? ⟨w1.heap.size, 78, none⟩ = some x := by
        obtain ⟨ad, hA, hj⟩ := he1.2 (by omega)
        obtain rfl : (⟨w1.heap.size, 0, none⟩ : Addr) = ad := Option.some.inj hA
        obtain ⟨cs, hE, hc⟩ := hj 3 zeroE (by rw [List.getElem?_replicate, if_pos (by omega)])
        have hcl := hE.cells
        have := hc 18 _ (List.getElem?_eq_getElem (by omega))
        rw [add_none, add_none] at this
        exact ⟨_, this⟩
      have hf78 : w2.frozen? ⟨w1.heap.size, 78, none⟩ = false := by
        have h1 := (Blk.new w1 50 M).fr hF2 (fun e => e)
        exact h1.frozen 78
      have g78 : (w2.alloc (.cells B 5)).cell? ⟨w1.heap.size, 78, none⟩ = some x78 := cell_fr ((Fr.refl Nil w2).alloc _) (fun e => e) hx78
      have gf78 : (w2.alloc (.cells B 5)).frozen? ⟨w1.heap.size, 78, none⟩ = false := by
        have h1 := ((Blk.new w1 50 M).fr hF2 (fun e => e)).alloc (.cells B 5)
        exact h1.frozen 78
      have hW5 := ents_set (W := (w2.alloc (.cells B 5)).drew) (g2 := w2.heap.size) hes (by omega) (hF2.trans (((Fr.refl Nil w2).alloc _).drew) (fun _ _ e => e)) ((hrB w2).fr ((Fr.refl Nil _).drew) (fun _ _ e => e)) (by omega)
      have hB5 := ((hB2.alloc (.cells B 5)).drew).far (p := ⟨w1.heap.size, 78, none⟩) (by simp) (.slice (some ⟨w2.heap.size, 0, none⟩) 65537 65537)
      have hF5 : Fr Nil w ((w2.alloc (.cells B 5)).drew.setCell ⟨w1.heap.size, 78, none⟩ (.slice (some ⟨w2.heap.size, 0, none⟩) 65537 65537)) := ((hFw2.alloc _).drew).setCell (.inl hF1.size) _
      have hS5 : ((w2.alloc (.cells B 5)).drew.setCell ⟨w1.heap.size, 78, none⟩ (.slice (some ⟨w2.heap.size, 0, none⟩) 65537 65537)).cell? ⟨w1.heap.size + 1, 21, none⟩ = some (.slice (some ⟨w1.heap.size, 0, none⟩) N N) := by
        have := hB5.cell 21
        simpa using this
      refine D_region (fun W' => W'.cell? ⟨w1.heap.size + 1, 21, none⟩ = some (.slice (some ⟨w1.heap.size, 0, none⟩) N N)) (fun _ => true) (by kernel_rfl) ?_
      refine D_pre (fuel := 4) (fun _ _ d _ _ h => by cases d <;> exact h) b21 [(0, .pointer (some ⟨w1.heap.size + 1, 21, none⟩)), (1, .slice (some ⟨w1.heap.size, 0, none⟩) N N)] _ _ (by kernel_rfl) ?_ ?_
      · repeat' (refine Y_cons rfl rfl (fun W' q0 => ?_) ?_)
        all_goals try simp only [Act.put]
        all_goals try exact Y_nil
        all_goals go_simp
      simp only [putAll, listAll, List.map]
      go_simp
      refine D_val (i := 2) (v := .slice (some ⟨w2.heap.size, 0, none⟩) 65537 65537) (w' := (w2.alloc (.cells B 5)).drew) (by kernel_rfl) rfl rfl (by go_simp) (fun _ => hS2) ?_
      go_simp
      refine D_pre (fuel := 1) (fun _ _ d _ _ h => by cases d <;> exact h) hS2 [(3, .pointer (some ⟨w1.heap.size, 60, none⟩)), (4, .pointer (some ⟨w1.heap.size, 78, none⟩))] _ _ (by kernel_rfl) ?_ ?_
      · repeat' (refine Y_cons rfl rfl (fun W' q0 => ?_) ?_)
        all_goals try simp only [Act.put]
        all_goals try exact Y_nil
        all_goals go_simp
      simp only [putAll, listAll, List.map]
      go_simp
      refine D_unit (i := 5) (w' := (w2.alloc (.cells B 5)).drew.setCell ⟨w1.heap.size, 78, none⟩ (.slice (some ⟨w2.heap.size, 0, none⟩) 65537 65537)) (by kernel_rfl) rfl rfl (by go_simp) (fun _ => hS5) ?_
      refine D_done (by kernel_rfl) ?_ _
      generalize (w2.alloc (.cells B 5)).drew.setCell ⟨w1.heap.size, 78, none⟩ (.slice (some ⟨w2.heap.size, 0, none⟩) 65537 65537) = w5 at *
      have d21 := hS5
      clear hS5 hS2 he2 he1 hx78 hf78 g78 gf78 b21 hB2 hes hmk hmk2 hrB hBn hone
      go_wp2_with (first
        | (refine wpList_load_blk rfl 48 (.tmp 5) rfl _ rfl _ _ hB5 Try.underlying48 rfl 22 (by kernel_rfl) rfl ?_)
        | fail)
      refine (bad_at (List.replicate 3 zeroE ++ longE :: List.replicate (N - 4) zeroE) 4 hW5 (by rw [mm_check 2 (.inl rfl) _ (by simp; omega)]; exact firstBad_long (N - 4)) (by decide)).mono ?_
      rintro e w6 ⟨rfl, hF6⟩
      have c21 := (hB5.fr hF6 (fun e => e)).cell 21
      simp at c21
      go_wp2
      go_ret
      exact ⟨ret_bool (by first | (simp; done) | (simp; omega)), hF5.trans hF6 (fun _ _ e => e)⟩

end Go.Proofs.Ytinomilmccopnaa
