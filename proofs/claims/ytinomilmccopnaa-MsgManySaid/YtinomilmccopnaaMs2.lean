/- Whether a message may be one. -/
import Derived.Test.YtinomilmccopnaaMs1
namespace Go.Proofs.Ytinomilmccopnaa
open Go.RowKit
attribute [local go_sem ↓] Go.wp_at_zero Go.wp_at_succ

structure Msg where
  kind : Int
  job : Int
  start : Int
  many : Int
  sum : List Int
  code : Int
  es : List Ent

def msgCells (m : Msg) (A : Option Addr) (n c : Nat) : List Value := [.int .u8 m.kind, .int .u64 m.job, .int .u64 m.start, .int .i64 m.many] ++ bytes m.sum ++ [.int .i64 m.code, .slice A n c]

/-- The first entry that may not be one. -/
def firstBad : List Ent → Int
  | [] => 0
  | e :: r => if entCheck e = 0 then firstBad r else entCheck e
def msgCheck (m : Msg) : Int :=
  if m.kind < 1 ∨ 7 < m.kind then 10
  else if 1099511627776 < m.job ∨ 1099511627776 < m.start ∨ m.many < 0 ∨ 256 < m.many ∨ m.code < 0 ∨ 31 < m.code then 6
  else if 256 < (m.es.length : Int) then 5
  else if (m.kind = 1 ∨ m.kind = 7) ∧ ¬ (m.es.length : Int) = 1 then 2
  else firstBad m.es

theorem firstBad_drop {es : List Ent} {j : Nat} {e : Ent} (h : es[j]? = some e) : firstBad (es.drop j) = if entCheck e = 0 then firstBad (es.drop (j + 1)) else entCheck e := by
  obtain ⟨hj, rfl⟩ := List.getElem?_eq_some_iff.1 h
  rw [List.drop_eq_getElem_cons hj]
  rfl

set_option maxRecDepth 100000 in
set_option maxHeartbeats 4000000 in
theorem Check_any {w : World} {A : Option Addr} {n c : Nat} (m : Msg) (h : EntsIs w A n m.es) (hs : m.sum.length = 16) :
    Calls Try.prog 53 #[.agg (msgCells m A n c).toArray] w fun e w' => e = .returned (.int .i64 (msgCheck m)) ∧ Fr Nil w w' := by
  obtain ⟨kind, job, start, many, sum, code, es⟩ := m
  unfold msgCheck
  simp only at hs h ⊢
  rw [h.1]
  obtain ⟨x0, x1, x2, x3, x4, x5, x6, x7, x8, x9, x10, x11, x12, x13, x14, x15, rfl⟩ := len16 hs
  clear hs
  simp only [msgCells, bytes, List.map_cons, List.map_nil, List.cons_append, List.nil_append]
  by_cases c1 : kind < 1
  · clear h
    go_enter Try.func53, Try.ntmps53
    go_wp2
    go_ret
    exact ⟨ret_int (by simp [c1]), (Fr.refl Nil w).alloc _⟩
  by_cases c2 : 7 < kind
  · clear h
    go_enter Try.func53, Try.ntmps53
    go_wp2
    go_ret
    exact ⟨ret_int (by simp [c2]), (Fr.refl Nil w).alloc _⟩
  rw [if_neg (by omega)]
  by_cases d1 : 1099511627776 < job
  · clear h
    go_enter Try.func53, Try.ntmps53
    go_wp2
    go_ret
    exact ⟨ret_int (by simp [d1]), (Fr.refl Nil w).alloc _⟩
  by_cases d2 : 1099511627776 < start
  · clear h
    go_enter Try.func53, Try.ntmps53
    go_wp2
    go_ret
    exact ⟨ret_int (by simp [d2]), (Fr.refl Nil w).alloc _⟩
  by_cases d3 : many < 0
  · clear h
    go_enter Try.func53, Try.ntmps53
    go_wp2
    go_ret
    exact ⟨ret_int (by simp [d3]), (Fr.refl Nil w).alloc _⟩
  by_cases d4 : 256 < many
  · clear h
    go_enter Try.func53, Try.ntmps53
    go_wp2
    go_ret
    exact ⟨ret_int (by simp [d4]), (Fr.refl Nil w).alloc _⟩
  by_cases d5 : code < 0
  · clear h
    go_enter Try.func53, Try.ntmps53
    go_wp2
    go_ret
    exact ⟨ret_int (by simp [d5]), (Fr.refl Nil w).alloc _⟩
  by_cases d6 : 31 < code
  · clear h
    go_enter Try.func53, Try.ntmps53
    go_wp2
    go_ret
    exact ⟨ret_int (by simp [d6]), (Fr.refl Nil w).alloc _⟩
  rw [if_neg (by omega)]
  by_cases e1 : 256 < (n : Int)
  · clear h
    go_enter Try.func53, Try.ntmps53
    go_wp2
    go_ret
    exact ⟨ret_int (by simp [e1]), (Fr.refl Nil w).alloc _⟩
  rw [if_neg (by omega)]
  by_cases f1 : (kind = 1 ∨ kind = 7) ∧ ¬ (n : Int) = 1
  · clear h
    rw [if_pos f1]
    obtain ⟨f1, f2⟩ := f1
    rcases f1 with rfl | rfl
    all_goals
      go_enter Try.func53, Try.ntmps53
      go_wp2
      go_ret
      exact ⟨rfl, (Fr.refl Nil w).alloc _⟩
  rw [if_neg f1]
  have hfact : (if kind = 1 then true else decide (kind = 7)) = true → (n : Int) = 1 := by
    intro hk
    by_cases k1 : kind = 1 <;> simp_all <;> omega
  have hcase : (kind = 1 ∧ n = 1) ∨ (kind = 7 ∧ n = 1) ∨ (¬ kind = 1 ∧ ¬ kind = 7) := by omega
  clear hfact f1
  have hFb : Fr Nil w (w.alloc (.cells #[.int .u8 kind, .int .u64 job, .int .u64 start, .int .i64 many, .int .u8 x0, .int .u8 x1, .int .u8 x2, .int .u8 x3, .int .u8 x4, .int .u8 x5, .int .u8 x6, .int .u8 x7, .int .u8 x8, .int .u8 x9, .int .u8 x10, .int .u8 x11, .int .u8 x12, .int .u8 x13, .int .u8 x14, .int .u8 x15, .int .i64 code, .slice A n c] 48)) := (Fr.refl Nil w).alloc _
  have HC := Lib.hid hcase
  clear hcase
  obtain ⟨hl, hes⟩ := h
  rcases HC.out with ⟨k1, k2⟩ | ⟨k1, k2⟩ | ⟨k1, k2⟩
  · subst k1 k2
    go_enter Try.func53, Try.ntmps53
    go_wp2_with fail
    generalize w.alloc (.cells #[.int .u8 1, .int .u64 job, .int .u64 start, .int .i64 many, .int .u8 x0, .int .u8 x1, .int .u8 x2, .int .u8 x3, .int .u8 x4, .int .u8 x5, .int .u8 x6, .int .u8 x7, .int .u8 x8, .int .u8 x9, .int .u8 x10, .int .u8 x11, .int .u8 x12, .int .u8 x13, .int .u8 x14, .int .u8 x15, .int .i64 code, .slice A 1 c] 48) = wb at *
    go_loopw [66] (fun q wr => ∃ j : Nat, j ≤ 1 ∧ q = .int .i64 j ∧ Fr Nil w wr ∧ firstBad es = firstBad (es.drop j)) (fun q _ => 1 - (intOf q).toNat)
    case atStart => exact ⟨0, Nat.zero_le _, rfl, hFb, rfl⟩
    case round =>
      obtain ⟨j, hj, rfl, hF, hfb⟩ := hrel
      by_cases hlt : j < 1
      · have hlti : (j : Int) < 1 := by omega
        have hj0 : (0 : Int) ≤ (j : Int) := by omega
        obtain ⟨ad, rfl, hce⟩ := hes (by omega)
        obtain ⟨e, he⟩ : ∃ e, es[j]? = some e := ⟨_, List.getElem?_eq_getElem (by omega)⟩
        obtain ⟨cs, hE, hcells⟩ := hce j e he
        have hcells' : ∀ k v, cs[k]? = some v → wr.cell? ((ad.add (j * 20)).add k) = some v := fun k v hv => cell_fr hF (fun e => e) (hcells k v hv)
        have hcl := hE.cells
        have hone := hE.one
        have hstep := firstBad_drop he
        rw [hstep] at hfb
        by_cases hz : entCheck e = 0
        · rw [if_pos hz] at hfb
          have HFB := Lib.hid hfb
          clear hstep hfb
          go_wp2_with (first
            | (refine wpList_load_at rfl 50 (.tmp 68) rfl _ rfl cs _ hcells' Try.underlying50 rfl 20 (by kernel_rfl) hcl ?_)
            | (refine wpList_store_blk rfl 50 (.tmp 4) (.tmp 69) rfl _ _ rfl rfl (Blk.new wr _ _) 20 (by kernel_rfl) (by simpa using hcl) rfl (by simpa using hone) ?_; intro w3 hB3 hF3)
            | (refine wpList_load_blk rfl 50 (.tmp 4) rfl _ rfl _ _ hB3 Try.underlying50 rfl 20 (by kernel_rfl) (by simpa using hcl) ?_)
            | (go_at_call 66; have hFw3 : Fr Nil w w3 := (hF.alloc _).trans hF3 (fun k hk e => by have := hF.size; omega); refine (EntryCheck_any (hE.fr hFw3)).mono ?_; rintro e' w4 ⟨rfl, hF4⟩))
          go_roundw
          case rel => exact ⟨j + 1, by omega, by go_num, hFw3.trans hF4 (fun _ _ e => e), HFB.out⟩
          case measure => simp [intOf]; omega
        · rw [if_neg hz] at hfb
          have HFB := Lib.hid hfb
          clear hstep hfb
          go_wp2_with (first
            | (refine wpList_load_at rfl 50 (.tmp 68) rfl _ rfl cs _ hcells' Try.underlying50 rfl 20 (by kernel_rfl) hcl ?_)
            | (refine wpList_store_blk rfl 50 (.tmp 4) (.tmp 69) rfl _ _ rfl rfl (Blk.new wr _ _) 20 (by kernel_rfl) (by simpa using hcl) rfl (by simpa using hone) ?_; intro w3 hB3 hF3)
            | (refine wpList_load_blk rfl 50 (.tmp 4) rfl _ rfl _ _ hB3 Try.underlying50 rfl 20 (by kernel_rfl) (by simpa using hcl) ?_)
            | (go_at_call 66; have hFw3 : Fr Nil w w3 := (hF.alloc _).trans hF3 (fun k hk e => by have := hF.size; omega); refine (EntryCheck_any (hE.fr hFw3)).mono ?_; rintro e' w4 ⟨rfl, hF4⟩))
          go_ret
          exact ⟨ret_int HFB.out.symm, hFw3.trans hF4 (fun _ _ e => e)⟩
      · obtain rfl : j = 1 := by omega
        have hnil : es.drop 1 = [] := List.drop_of_length_le (by omega)
        rw [hnil] at hfb
        go_wp2
        go_ret
        exact ⟨ret_int hfb.symm, hF⟩
  · subst k1 k2
    go_enter Try.func53, Try.ntmps53
    go_wp2_with fail
    generalize w.alloc (.cells #[.int .u8 7, .int .u64 job, .int .u64 start, .int .i64 many, .int .u8 x0, .int .u8 x1, .int .u8 x2, .int .u8 x3, .int .u8 x4, .int .u8 x5, .int .u8 x6, .int .u8 x7, .int .u8 x8, .int .u8 x9, .int .u8 x10, .int .u8 x11, .int .u8 x12, .int .u8 x13, .int .u8 x14, .int .u8 x15, .int .i64 code, .slice A 1 c] 48) = wb at *
    go_loopw [66] (fun q wr => ∃ j : Nat, j ≤ 1 ∧ q = .int .i64 j ∧ Fr Nil w wr ∧ firstBad es = firstBad (es.drop j)) (fun q _ => 1 - (intOf q).toNat)
    case atStart => exact ⟨0, Nat.zero_le _, rfl, hFb, rfl⟩
    case round =>
      obtain ⟨j, hj, rfl, hF, hfb⟩ := hrel
      by_cases hlt : j < 1
      · have hlti : (j : Int) < 1 := by omega
        have hj0 : (0 : Int) ≤ (j : Int) := by omega
        obtain ⟨ad, rfl, hce⟩ := hes (by omega)
        obtain ⟨e, he⟩ : ∃ e, es[j]? = some e := ⟨_, List.getElem?_eq_getElem (by omega)⟩
        obtain ⟨cs, hE, hcells⟩ := hce j e he
        have hcells' : ∀ k v, cs[k]? = some v → wr.cell? ((ad.add (j * 20)).add k) = some v := fun k v hv => cell_fr hF (fun e => e) (hcells k v hv)
        have hcl := hE.cells
        have hone := hE.one
        have hstep := firstBad_drop he
        rw [hstep] at hfb
        by_cases hz : entCheck e = 0
        · rw [if_pos hz] at hfb
          have HFB := Lib.hid hfb
          clear hstep hfb
          go_wp2_with (first
            | (refine wpList_load_at rfl 50 (.tmp 68) rfl _ rfl cs _ hcells' Try.underlying50 rfl 20 (by kernel_rfl) hcl ?_)
            | (refine wpList_store_blk rfl 50 (.tmp 4) (.tmp 69) rfl _ _ rfl rfl (Blk.new wr _ _) 20 (by kernel_rfl) (by simpa using hcl) rfl (by simpa using hone) ?_; intro w3 hB3 hF3)
            | (refine wpList_load_blk rfl 50 (.tmp 4) rfl _ rfl _ _ hB3 Try.underlying50 rfl 20 (by kernel_rfl) (by simpa using hcl) ?_)
            | (go_at_call 66; have hFw3 : Fr Nil w w3 := (hF.alloc _).trans hF3 (fun k hk e => by have := hF.size; omega); refine (EntryCheck_any (hE.fr hFw3)).mono ?_; rintro e' w4 ⟨rfl, hF4⟩))
          go_roundw
          case rel => exact ⟨j + 1, by omega, by go_num, hFw3.trans hF4 (fun _ _ e => e), HFB.out⟩
          case measure => simp [intOf]; omega
        · rw [if_neg hz] at hfb
          have HFB := Lib.hid hfb
          clear hstep hfb
          go_wp2_with (first
            | (refine wpList_load_at rfl 50 (.tmp 68) rfl _ rfl cs _ hcells' Try.underlying50 rfl 20 (by kernel_rfl) hcl ?_)
            | (refine wpList_store_blk rfl 50 (.tmp 4) (.tmp 69) rfl _ _ rfl rfl (Blk.new wr _ _) 20 (by kernel_rfl) (by simpa using hcl) rfl (by simpa using hone) ?_; intro w3 hB3 hF3)
            | (refine wpList_load_blk rfl 50 (.tmp 4) rfl _ rfl _ _ hB3 Try.underlying50 rfl 20 (by kernel_rfl) (by simpa using hcl) ?_)
            | (go_at_call 66; have hFw3 : Fr Nil w w3 := (hF.alloc _).trans hF3 (fun k hk e => by have := hF.size; omega); refine (EntryCheck_any (hE.fr hFw3)).mono ?_; rintro e' w4 ⟨rfl, hF4⟩))
          go_ret
          exact ⟨ret_int HFB.out.symm, hFw3.trans hF4 (fun _ _ e => e)⟩
      · obtain rfl : j = 1 := by omega
        have hnil : es.drop 1 = [] := List.drop_of_length_le (by omega)
        rw [hnil] at hfb
        go_wp2
        go_ret
        exact ⟨ret_int hfb.symm, hF⟩
  · go_enter Try.func53, Try.ntmps53
    go_wp2_with fail
    generalize w.alloc (.cells #[.int .u8 kind, .int .u64 job, .int .u64 start, .int .i64 many, .int .u8 x0, .int .u8 x1, .int .u8 x2, .int .u8 x3, .int .u8 x4, .int .u8 x5, .int .u8 x6, .int .u8 x7, .int .u8 x8, .int .u8 x9, .int .u8 x10, .int .u8 x11, .int .u8 x12, .int .u8 x13, .int .u8 x14, .int .u8 x15, .int .i64 code, .slice A n c] 48) = wb at *
    go_loopw [66] (fun q wr => ∃ j : Nat, j ≤ n ∧ q = .int .i64 j ∧ Fr Nil w wr ∧ firstBad es = firstBad (es.drop j)) (fun q _ => n - (intOf q).toNat)
    case atStart => exact ⟨0, Nat.zero_le _, rfl, hFb, rfl⟩
    case round =>
      obtain ⟨j, hj, rfl, hF, hfb⟩ := hrel
      by_cases hlt : j < n
      · have hlti : (j : Int) < (n : Int) := by omega
        have hj0 : (0 : Int) ≤ (j : Int) := by omega
        obtain ⟨ad, rfl, hce⟩ := hes (by omega)
        obtain ⟨e, he⟩ : ∃ e, es[j]? = some e := ⟨_, List.getElem?_eq_getElem (by omega)⟩
        obtain ⟨cs, hE, hcells⟩ := hce j e he
        have hcells' : ∀ k v, cs[k]? = some v → wr.cell? ((ad.add (j * 20)).add k) = some v := fun k v hv => cell_fr hF (fun e => e) (hcells k v hv)
        have hcl := hE.cells
        have hone := hE.one
        have hstep := firstBad_drop he
        rw [hstep] at hfb
        by_cases hz : entCheck e = 0
        · rw [if_pos hz] at hfb
          have HFB := Lib.hid hfb
          clear hstep hfb
          go_wp2_with (first
            | (refine wpList_load_at rfl 50 (.tmp 68) rfl _ rfl cs _ hcells' Try.underlying50 rfl 20 (by kernel_rfl) hcl ?_)
            | (refine wpList_store_blk rfl 50 (.tmp 4) (.tmp 69) rfl _ _ rfl rfl (Blk.new wr _ _) 20 (by kernel_rfl) (by simpa using hcl) rfl (by simpa using hone) ?_; intro w3 hB3 hF3)
            | (refine wpList_load_blk rfl 50 (.tmp 4) rfl _ rfl _ _ hB3 Try.underlying50 rfl 20 (by kernel_rfl) (by simpa using hcl) ?_)
            | (go_at_call 66; have hFw3 : Fr Nil w w3 := (hF.alloc _).trans hF3 (fun k hk e => by have := hF.size; omega); refine (EntryCheck_any (hE.fr hFw3)).mono ?_; rintro e' w4 ⟨rfl, hF4⟩))
          go_roundw
          case rel => exact ⟨j + 1, by omega, by go_num, hFw3.trans hF4 (fun _ _ e => e), HFB.out⟩
          case measure => simp [intOf]; omega
        · rw [if_neg hz] at hfb
          have HFB := Lib.hid hfb
          clear hstep hfb
          go_wp2_with (first
            | (refine wpList_load_at rfl 50 (.tmp 68) rfl _ rfl cs _ hcells' Try.underlying50 rfl 20 (by kernel_rfl) hcl ?_)
            | (refine wpList_store_blk rfl 50 (.tmp 4) (.tmp 69) rfl _ _ rfl rfl (Blk.new wr _ _) 20 (by kernel_rfl) (by simpa using hcl) rfl (by simpa using hone) ?_; intro w3 hB3 hF3)
            | (refine wpList_load_blk rfl 50 (.tmp 4) rfl _ rfl _ _ hB3 Try.underlying50 rfl 20 (by kernel_rfl) (by simpa using hcl) ?_)
            | (go_at_call 66; have hFw3 : Fr Nil w w3 := (hF.alloc _).trans hF3 (fun k hk e => by have := hF.size; omega); refine (EntryCheck_any (hE.fr hFw3)).mono ?_; rintro e' w4 ⟨rfl, hF4⟩))
          go_ret
          exact ⟨ret_int HFB.out.symm, hFw3.trans hF4 (fun _ _ e => e)⟩
      · obtain rfl : n = j := by omega
        have hnil : es.drop n = [] := List.drop_of_length_le (by omega)
        rw [hnil] at hfb
        go_wp2
        go_ret
        exact ⟨ret_int hfb.symm, hF⟩

end Go.Proofs.Ytinomilmccopnaa
