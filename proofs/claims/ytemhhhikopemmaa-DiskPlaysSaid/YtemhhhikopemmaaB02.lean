/- Several texts of one claim, one behind the other (Copy, PkW, PkR). -/
import Derived.Test.YtemhhhikopemmaaB01
import Derived.Laws.CopyOwn
import Derived.Deep.MidRow
import Derived.Deep.DrawnRows
import Derived.Deep.RegionLaw
import Derived.BigRegion
import Derived.Defers
import Derived.Recover
/- copy onto the whole of a block of the call's own. No program is in sight. -/
namespace Go.Proofs.Ytemhhhikopemmaa
open Go.RowKit

section
variable {P : Program} {w : World} {dT sT elem t : TypeId} {g n c : Nat} {A : Option Addr} {cur : Array Value} {cs : List Value}

theorem run_copy_whole (ty : TypeId) (hu : P.underlying dT = some (.slice elem)) (hsz : (P.info? elem).map (·.size) = some 1) (hb : Blk w g t cur) (hn : cur.size = n) (hp : 0 < n) (hr : Reads w 1 A n cs) (h1 : ∀ v ∈ cs, v.oneCell' = true) :
    ∃ w', (Builtin.copy_ #[dT, sT] ty #[.slice (some ⟨g, 0, none⟩) n n, .slice A n c]).run P w = .ok (goInt n) w' ∧ Blk w' g t cs.toArray ∧ Fr (fun k => k = g) w w' := by
  obtain ⟨ad, rfl, hc⟩ := hr.2 hp
  have hl : cs.length = n := by simpa using hr.1
  have hrun := run_copy_row (P := P) w dT sT ty elem g 0 n n ad n c cur t cs hu hsz hb (by rw [hl]; exact (Nat.min_self n).symm) hc (by omega) h1
  have hd : cur.toList.take 0 ++ cs ++ cur.toList.drop (0 + cs.length) = cs := by
    rw [List.take_zero, List.nil_append, List.drop_of_length_le (by simp; omega), List.append_nil]
  rw [hd, hl] at hrun
  refine ⟨w.setRow g cs.toArray, hrun, ?_, ⟨rfl, rfl, rfl, by simp, fun k _ hk => setRow_other w g k _ hk⟩⟩
  exact setRow_heap w g cur cs.toArray t (0, 0) hb

theorem wp_copy_whole {o : Oper} {a : Act} {K : Act → World → Prop} {Q : Exit → Act → World → Prop} (d s : Operand)
    (ho : o.op = .call { callee := .builtin .copy, args := #[d, s], argTypes := #[dT, sT] }) (hu : P.underlying dT = some (.slice elem)) (hsz : (P.info? elem).map (·.size) = some 1)
    (hd : a.eval d = .slice (some ⟨g, 0, none⟩) n n) (hs : a.eval s = .slice A n c) (hb : Blk w g t cur) (hn : cur.size = n) (hp : 0 < n) (hr : Reads w 1 A n cs) (h1 : ∀ v ∈ cs, v.oneCell' = true)
    (h : ∀ w', Blk w' g t cs.toArray → Fr (fun k => k = g) w w' → K (a.put o.dst (goInt n)) w') : o.wp P a w K Q := by
  obtain ⟨w', hrun, h2, h3⟩ := run_copy_whole (P := P) (sT := sT) (c := c) o.type hu hsz hb hn hp hr h1
  unfold Oper.wp execOp
  simp only [ho, resolve, invoke, builtin, Sem.run_bind, Sem.run_pure, Result.andThen_ok, List.map_toArray, List.map_cons, List.map_nil, hd, hs, hrun]
  exact h w' h2 h3
/-- .. of which nothing goes over. -/
theorem wp_copy_nothing {o : Oper} {a : Act} {K : Act → World → Prop} {Q : Exit → Act → World → Prop} (d s : Operand)
    (ho : o.op = .call { callee := .builtin .copy, args := #[d, s], argTypes := #[dT, sT] }) (hu : P.underlying dT = some (.slice elem)) (hsz : (P.info? elem).map (·.size) = some 1)
    (dp : Option Addr) (dLen dCap : Nat) (hd : a.eval d = .slice dp dLen dCap) (hs : a.eval s = .slice A 0 c)
    (h : K (a.put o.dst (goInt 0)) w) : o.wp P a w K Q := by
  have hrun := run_copy_none (P := P) w dT sT o.type elem dp A dLen dCap 0 c hu hsz (Nat.zero_min _)
  unfold Oper.wp execOp
  simp only [ho, resolve, invoke, builtin, Sem.run_bind, Sem.run_pure, Result.andThen_ok, List.map_toArray, List.map_cons, List.map_nil, hd, hs, hrun]
  exact h
/-! ### A whole block as a value -/
theorem setCells_blk_from {w : World} {g : Nat} {t : TypeId} : ∀ (vs : List Value) (o : Nat) (w : World) (cur : Array Value), Blk w g t cur → o + vs.length = cur.size → Blk (w.setCells g o vs) g t ((cur.toList.take o ++ vs).toArray)
  | [], o, w, cur, h, ho => by
    rw [List.append_nil, List.take_of_length_le (by simp at ho; simp; omega)]
    simpa [World.setCells] using h
  | v :: r, o, w, cur, h, ho => by
    have h1 := setCells_blk_from (w := w) r (o + 1) _ _ (h.set_ o v) (by simp at ho ⊢; omega)
    have e : (cur.setIfInBounds o v).toList.take (o + 1) ++ r = cur.toList.take o ++ v :: r := by
      rw [List.length_cons] at ho
      rw [Array.toList_setIfInBounds, List.take_set, List.take_succ_eq_append_getElem (by simp; omega), List.set_append_right _ _ (by simp; omega)]
      simp
      rw [Nat.min_eq_left (by omega), Nat.sub_self]
      rfl
    rw [e] at h1
    exact h1
theorem setCells_blk {w : World} {g : Nat} {t : TypeId} {cur : Array Value} (h : Blk w g t cur) (cs : Array Value) (hs : cs.size = cur.size) : Blk (w.setCells g 0 cs.toList) g t cs := by
  have h1 := setCells_blk_from (w := w) cs.toList 0 w cur h (by simpa using hs)
  simpa using h1
theorem setCells_fr {g : Nat} : ∀ (vs : List Value) (o : Nat) (w : World), Fr (fun k => k = g) w (w.setCells g o vs)
  | [], _, w => Fr.refl _ _
  | v :: r, o, w => ((Fr.refl (fun k => k = g) w).setCell (.inr rfl) v).trans (setCells_fr r (o + 1) _) (fun _ _ e => e)

theorem wpList_load_blk {ops : Array Oper} {rest : List Oper} {o : Oper} {a : Act} {w : World} {Q : Exit → Act → World → Prop} (hgd : o.guard = none) (ty : TypeId) (x : Operand) (ho : o.op = .load ty x)
    (g : Nat) (hx : a.eval x = .pointer (some ⟨g, 0, none⟩)) (cs : Array Value) (d : TypeDesc) (hb : Blk w g t cs)
    (hu : P.underlying ty = some d) (hd : (match d with | .struct _ | .array _ _ => true | _ => false) = true) (n : Nat) (hi : (P.info? ty).map (·.size) = some n) (hn : cs.size = n)
    (h : wpList P ops Q rest (a.put o.dst (.agg cs)) w) : wpList P ops Q (o :: rest) a w :=
  wpList_load_row hgd ty x ho g hx t cs (0, 0) d hb hu hd (by rw [hn]; exact hi) h

theorem wpList_store_blk {ops : Array Oper} {rest : List Oper} {o : Oper} {a : Act} {w : World} {Q : Exit → Act → World → Prop} (hgd : o.guard = none) (ty : TypeId) (x y : Operand) (ho : o.op = .store ty x y)
    (g : Nat) (cells : Array Value) (hx : a.eval x = .pointer (some ⟨g, 0, none⟩)) (hy : a.eval y = .agg cells) (hb : Blk w g t cur) (n : Nat) (hi : (P.info? ty).map (·.size) = some n) (hn : cells.size = n) (hc : cur.size = n)
    (h1 : ∀ v ∈ cells.toList, v.oneCell' = true)
    (h : ∀ w', Blk w' g t cells → Fr (fun k => k = g) w w' → wpList P ops Q rest (a.put o.dst undef) w') : wpList P ops Q (o :: rest) a w := by
  refine wpList_store_mid hgd ty x y ho g 0 cells hx hy (fun j hj => ?_) (by rw [hn]; exact hi) (by have := all_oneCell_toArray h1; simpa using this) ?_
  · refine ⟨?_, ?_⟩
    · rw [hb.cell, Array.getElem?_eq_getElem (by omega)]; rfl
    · exact hb.frozen _
  · exact h _ (setCells_blk hb cells (by omega)) (setCells_fr _ _ _)
end

end Go.Proofs.Ytemhhhikopemmaa
/- What the Writer of package pack does: contracts. -/
namespace Go.Proofs.Ytemhhhikopemmaa
open Go.RowKit
attribute [local go_sem ↓] Go.wp_at_zero Go.wp_at_succ

/-- The Writer at block b: its bytes are the value v, which holds bs. -/
structure WrR (w : World) (b : Nat) (v : Value) (bs : List Int) : Prop where
  blk : Blk w b 94 #[v]
  own : w.ownsRow 0 5 1 v bs.length (bytes bs)

theorem WrR.fr {S : Nat → Prop} {w w' : World} {b : Nat} {v : Value} {bs : List Int} (h : WrR w b v bs) (hf : Fr S w w') (hb : ¬ S b) (hv : ∀ k, v.ownBlock = some k → ¬ S k) : WrR w' b v bs := ⟨h.blk.fr hf hb, own_fr h.own hf hv⟩
theorem WrR.nil {w w' : World} {b : Nat} {v : Value} {bs : List Int} (h : WrR w b v bs) (hf : Fr Nil w w') : WrR w' b v bs := h.fr hf (fun e => e) (fun _ _ e => e)

theorem step_own {w : World} {b : Nat} {v v' : Value} (h : Moved w v v') : ∀ k, k < w.heap.size → NetS b v' k → NetS b v k := by
  rintro k hk (rfl | e)
  · exact .inl rfl
  · rcases h k e with h | h
    · exact .inr h
    · omega
theorem Moved.trans_ {w w1 : World} {v v1 v2 : Value} (h : Moved w v v1) (hs : w.heap.size ≤ w1.heap.size) (h2 : Moved w1 v1 v2) : Moved w v v2 := fun g hg => by
  rcases h2 g hg with e | e
  · exact h g e
  · exact .inr (Nat.le_trans hs e)

/-- What a put leaves. -/
structure Put (w : World) (b : Nat) (v : Value) (bs xs : List Int) (e : Ending) (w' : World) : Prop where
  ok : e = .returned (.tuple #[])
  fr : Fr (NetS b v) w w'
  rep : ∃ v', WrR w' b v' (bs ++ xs) ∧ Moved w v v'

set_option maxHeartbeats 800000 in
theorem WRaw_any {w : World} {b : Nat} {v : Value} {bs xs : List Int} {A : Option Addr} {m cap : Nat} (h : WrR w b v bs) (hr : Reads w 1 A m (bytes xs)) (hm : bs.length + m ≤ 70368744177664) :
    Calls Try.prog 46 #[.pointer (some ⟨b, 0, none⟩), .slice A m cap] w (Put w b v bs xs) := by
  obtain ⟨i0, hi0, hz0, hz1, hz2⟩ := info_parts Try.info5
  obtain ⟨V, cv, rfl⟩ := own_form h.own
  have c0 := h.blk.cell 0
  have f0 := h.blk.frozen 0
  have hb := h.blk.lt
  have hVb : (Value.slice V bs.length cv).ownBlock ≠ some b := own_ne h.own h.blk (by decide)
  simp at c0
  go_enter Try.func46, Try.ntmps46
  go_wp2_with (at_builtin; refine wpList_app _ rfl (.tmp 10) (.tmp 11) 23 rfl 5 i0 (.int .u8 0) 1 1 Try.underlying23 hi0 hz0 hz1 hz2 rfl (by omega) (.slice V bs.length cv) bs.length (bytes bs) rfl h.own A m cap (bytes xs) rfl hr (one_bytes xs) (by unfold maxLen; omega) (by omega) ?_; intro v2 w2 hown2 hg2 hat2; obtain ⟨V2, cp2, rfl⟩ := own_form hown2; have hB2 := h.blk.grown hg2 hVb; have d0 := hB2.cell 0; have d1 := hB2.frozen 0; simp at d0)
  go_end0
  have hF2 : Fr (NetS b (.slice V bs.length cv)) w w2 := (Fr.refl _ _).grown hg2 (fun k hk _ => .inr hk)
  have hV2b : (Value.slice V2 (bs.length + m) cp2).ownBlock ≠ some b := own_ne hown2 hB2 (by decide)
  have hml : (bs ++ xs).length = bs.length + m := by have := hr.1; simp [bytes] at this; simp [this]
  refine ⟨rfl, hF2.setCell (.inr (.inl rfl)) _, .slice V2 (bs.length + m) cp2, ⟨?_, ?_⟩, ?_⟩
  · have := hB2.set_ 0 (.slice V2 (bs.length + m) cp2)
    simpa using this
  · rw [hml, show bytes (bs ++ xs) = bytes bs ++ bytes xs from by simp [bytes]]
    exact own_fr hown2 ((Fr.refl (fun k => k = b) w2).setCell (.inr rfl) _) (fun k hk e => hV2b (by rw [hk, e]))
  · intro g hg
    rcases hat2 with e | e
    · exact .inl (by rw [← e]; exact hg)
    · rw [e] at hg
      exact .inr (by have : w.heap.size = g := by simpa using hg
                     omega)

set_option maxHeartbeats 400000 in
theorem WRaw_nil (A : Option Addr) (m cap : Nat) (w : World) :
    Calls Try.prog 46 #[.pointer none, .slice A m cap] w fun e w' => e = .returned (.tuple #[]) ∧ w = w' := by
  go_enter Try.func46, Try.ntmps46
  go_wp2
  go_end0
  exact ⟨rfl, rfl⟩

set_option maxHeartbeats 800000 in
theorem WBytes_any {w : World} {b : Nat} {v : Value} {bs : List Int} (h : WrR w b v bs) (hm : bs.length ≤ 70368744177664) :
    Calls Try.prog 48 #[.pointer (some ⟨b, 0, none⟩)] w fun e w' => ∃ A cap, e = .returned (.slice A bs.length cap) ∧ w'.ownsRow 0 5 1 (.slice A bs.length cap) bs.length (bytes bs) ∧ Fr Nil w w' ∧ ∀ g, blockOf A = some g → w.heap.size ≤ g := by
  obtain ⟨i0, hi0, hz0, hz1, hz2⟩ := info_parts Try.info5
  obtain ⟨V, cv, rfl⟩ := own_form h.own
  have c0 := h.blk.cell 0
  simp at c0
  have hb := h.blk.lt
  go_enter Try.func48, Try.ntmps48
  go_wp2_with (at_builtin; refine wpList_app _ rfl (.tmp 5) (.tmp 9) 23 rfl 5 i0 (.int .u8 0) 1 1 Try.underlying23 hi0 hz0 hz1 hz2 rfl (by omega) (.slice (some ⟨w.heap.size, 0, none⟩) 0 0) 0 [] rfl (own_empty _ _ _ _ rfl) V bs.length cv (bytes bs) rfl ((Reads.of_own h.own).fr ((Fr.refl Nil w).alloc _) (fun _ _ e => e)) (one_bytes bs) (by unfold maxLen; omega) (by omega) ?_; intro v2 w2 hown2 hg2 hat2; obtain ⟨V2, cp2, rfl⟩ := own_form hown2; rw [Nat.zero_add] at hat2)
  go_ret
  refine ⟨V2, cp2, by simp, by simpa using hown2, ((Fr.refl Nil w).alloc _).grown hg2 (by intro k hk hlt; simp [Value.ownBlock] at hk; omega), fun g hg => ?_⟩
  have hg' : (Value.slice V2 bs.length cp2).ownBlock = some g := own_of_blockOf hg
  rcases hat2 with e | e <;> rw [e] at hg' <;> simp [Value.ownBlock] at hg' <;> omega

set_option maxHeartbeats 400000 in
theorem WBytes_nil (w : World) :
    Calls Try.prog 48 #[.pointer none] w fun e w' => e = .returned (.slice none 0 0) ∧ w = w' := by
  go_enter Try.func48, Try.ntmps48
  go_wp2
  go_ret
  exact ⟨rfl, rfl⟩

set_option maxHeartbeats 1600000 in
theorem WUint_any {w : World} {b : Nat} {v : Value} {bs : List Int} (h : WrR w b v bs) (n : Int) (hn0 : 0 ≤ n) (hn1 : n ≤ 18446744073709551615) (z : Int) (hm : bs.length + 8 ≤ 70368744177664) :
    Calls Try.prog 47 #[.pointer (some ⟨b, 0, none⟩), .int .u64 n, .int .i64 z] w (Put w b v bs (le n (clamp8 z))) := by
  have HN := Lib.hid hn1
  have hK8 : clamp8 z ≤ 8 := by unfold clamp8; omega
  have HM := Lib.hid hm
  clear hn1 hm
  have hcase : z < 0 ∧ clamp8 z = 0 ∨ 8 < z ∧ clamp8 z = 8 ∨ 0 ≤ z ∧ z ≤ 8 ∧ z = clamp8 z := by unfold clamp8; omega
  rcases hcase with ⟨h0, hK⟩ | ⟨h0, hK⟩ | ⟨h0, h1, hK⟩
  · rw [hK]
    clear hK hK8
    go_enter Try.func47, Try.ntmps47
    go_wp2
    go_loopw [10] (fun q wr => ∃ k : Nat, k ≤ 0 ∧ q = .int .i64 k ∧ ∃ v', WrR wr b v' (bs ++ le n k) ∧ Fr (NetS b v) w wr ∧ Moved w v v') (fun q _ => 0 - (intOf q).toNat)
    case atStart => exact ⟨0, Nat.zero_le _, rfl, v, by simpa [le] using h, Fr.refl _ _, fun g hg => .inl hg⟩
    case round =>
      obtain ⟨k, hk, rfl, v', hR, hF, hM⟩ := hrel
      by_cases hlt : k < 0
      · omega
      · obtain rfl : k = 0 := by omega
        go_wp2
        go_end0
        exact ⟨rfl, hF, v', hR, hM⟩
  · rw [hK]
    clear hK hK8
    go_enter Try.func47, Try.ntmps47
    go_wp2
    go_loopw [10] (fun q wr => ∃ k : Nat, k ≤ 8 ∧ q = .int .i64 k ∧ ∃ v', WrR wr b v' (bs ++ le n k) ∧ Fr (NetS b v) w wr ∧ Moved w v v') (fun q _ => 8 - (intOf q).toNat)
    case atStart => exact ⟨0, Nat.zero_le _, rfl, v, by simpa [le] using h, Fr.refl _ _, fun g hg => .inl hg⟩
    case round =>
      obtain ⟨k, hk, rfl, v', hR, hF, hM⟩ := hrel
      by_cases hlt : k < 8
      · have hk7 : (k : Int) ≤ 7 := by omega
        have hlti : (k : Int) < 8 := by omega
        have hR' := hR.nil ((Fr.refl Nil wr).alloc (.cells #[.int .u8 (n / 2 ^ (8 * k) % 256)] 5))
        have hrd : Reads (wr.alloc (.cells #[.int .u8 (n / 2 ^ (8 * k) % 256)] 5)) 1 (some ⟨wr.heap.size, 0, none⟩) 1 (bytes [n / 2 ^ (8 * k) % 256]) := Reads.of_blk (Blk.new wr _ _) rfl
        have hFa : Fr (NetS b v) w (wr.alloc (.cells #[.int .u8 (n / 2 ^ (8 * k) % 256)] 5)) := hF.alloc _
        go_wp2_with (go_at_call 46; refine (WRaw_any hR' hrd (by have := HM.out; simp [le_len]; omega)).mono ?_; rintro e w2 ⟨rfl, hF2, v2, hR2, hM2⟩)
        go_roundw
        case rel => exact ⟨k + 1, by omega, by go_num, v2, by rw [le_succ, ← List.append_assoc]; exact hR2, hFa.trans hF2 (step_own hM), hM.trans_ (Nat.le_trans hF.size (by simp)) hM2⟩
        case measure => simp [intOf]; omega
      · obtain rfl : k = 8 := by omega
        go_wp2
        go_end0
        exact ⟨rfl, hF, v', hR, hM⟩
  · obtain ⟨K, rfl⟩ : ∃ K : Nat, z = K := ⟨clamp8 z, hK⟩
    have hKK : clamp8 (K : Int) = K := by omega
    rw [hKK] at hK8 ⊢
    clear hKK hK
    have hk8 : (K : Int) ≤ 8 := by omega
    go_enter Try.func47, Try.ntmps47
    go_wp2
    go_loopw [10] (fun q wr => ∃ k : Nat, k ≤ K ∧ q = .int .i64 k ∧ ∃ v', WrR wr b v' (bs ++ le n k) ∧ Fr (NetS b v) w wr ∧ Moved w v v') (fun q _ => K - (intOf q).toNat)
    case atStart => exact ⟨0, Nat.zero_le _, rfl, v, by simpa [le] using h, Fr.refl _ _, fun g hg => .inl hg⟩
    case round =>
      obtain ⟨k, hk, rfl, v', hR, hF, hM⟩ := hrel
      by_cases hlt : k < K
      · have hk7 : (k : Int) ≤ 7 := by omega
        have hlti : (k : Int) < K := by omega
        have hR' := hR.nil ((Fr.refl Nil wr).alloc (.cells #[.int .u8 (n / 2 ^ (8 * k) % 256)] 5))
        have hrd : Reads (wr.alloc (.cells #[.int .u8 (n / 2 ^ (8 * k) % 256)] 5)) 1 (some ⟨wr.heap.size, 0, none⟩) 1 (bytes [n / 2 ^ (8 * k) % 256]) := Reads.of_blk (Blk.new wr _ _) rfl
        have hFa : Fr (NetS b v) w (wr.alloc (.cells #[.int .u8 (n / 2 ^ (8 * k) % 256)] 5)) := hF.alloc _
        go_wp2_with (go_at_call 46; refine (WRaw_any hR' hrd (by have := HM.out; simp [le_len]; omega)).mono ?_; rintro e w2 ⟨rfl, hF2, v2, hR2, hM2⟩)
        go_roundw
        case rel => exact ⟨k + 1, by omega, by go_num, v2, by rw [le_succ, ← List.append_assoc]; exact hR2, hFa.trans hF2 (step_own hM), hM.trans_ (Nat.le_trans hF.size (by simp)) hM2⟩
        case measure => simp [intOf]; omega
      · obtain rfl : K = k := by omega
        go_wp2
        go_end0
        exact ⟨rfl, hF, v', hR, hM⟩

theorem bytes_len {w : World} {A : Option Addr} {n : Nat} {bs : List Int} (h : Reads w 1 A n (bytes bs)) : bs.length = n := by have := h.1; simpa [bytes] using this

end Go.Proofs.Ytemhhhikopemmaa
/- Reading within pack.Read: what the deferred function does. -/
namespace Go.Proofs.Ytemhhhikopemmaa
open Go.RowKit
attribute [local go_sem ↓] Go.wp_at_zero Go.wp_at_succ

/-- The Reader at block r. -/
structure RdR (w : World) (r : Nat) (A : Option Addr) (n cap : Nat) (rest : List Int) (live : Bool) : Prop where
  blk : Blk w r 111 #[.slice A n cap, .bool live]
  reads : Reads w 1 A n (bytes rest)
  le : n ≤ cap
  big : cap ≤ maxLen

/-- The Reader at r goes on, in the same bytes. -/
def Next (w' : World) (r : Nat) (A : Option Addr) (rest : List Int) : Prop := ∃ A' n cap, RdR w' r A' n cap rest true ∧ ∀ g, blockOf A' = some g → blockOf A = some g
theorem Next.up {w' : World} {r : Nat} {A A1 : Option Addr} {rest : List Int} (h : Next w' r A1 rest) (hA : ∀ g, blockOf A1 = some g → blockOf A = some g) : Next w' r A rest := by
  obtain ⟨A', n, cap, h1, h2⟩ := h
  exact ⟨A', n, cap, h1, fun g hg => hA g (h2 g hg)⟩
/-- .. where blocks are written that were not there when it began. -/
theorem Next.fresh {S : Nat → Prop} {w w1 w2 : World} {r : Nat} {A : Option Addr} {n cap : Nat} {rest0 rest : List Int} {live : Bool} (h0 : RdR w r A n cap rest0 live) (hn : 0 < n) (h : Next w1 r A rest) (hf : Fr S w1 w2) (hS : ∀ k, S k → w.heap.size ≤ k) : Next w2 r A rest := by
  obtain ⟨A', n', cap', h1, h2⟩ := h
  refine ⟨A', n', cap', ⟨h1.blk.fr hf (fun e => by have := hS _ e; have := h0.blk.lt; omega), h1.reads.fr hf (fun k hk e => ?_), h1.le, h1.big⟩, h2⟩
  obtain ⟨ad, rfl, hc⟩ := h0.reads.2 hn
  have hk2 := h2 k hk
  have hl : 0 < (bytes rest0).length := by rw [h0.reads.1]; omega
  have hcell := hc 0 _ (List.getElem?_eq_getElem hl)
  have hb : ad.block = k := Option.some.inj hk2
  have := hS k e
  unfold World.cell? at hcell
  rw [show (ad.add 0).block = k from by rw [add_block]; exact hb, Array.getElem?_eq_none (by omega)] at hcell
  cases hcell

/-- What a Reader panics with. -/
def stopV (c : Int) : Value := .iface 113 (.agg #[.int .i64 c])

theorem stop_eql (c : Int) (w : World) : (binOp .eql 20 (.iface 113 (.agg #[.int .i64 c])) .nilIface).run Try.prog w = .ok (.bool false) w := by kernel_rfl
theorem stop_is (c : Int) (w : World) : (Instr.typeAssert (.iface 113 (.agg #[.int .i64 c])) 20 113 true).run Try.prog w = .ok (.tuple #[.agg #[.int .i64 c], .bool true]) w := by kernel_rfl

set_option maxHeartbeats 800000 in
theorem Read1_idle (p q r : Nat) (w : World) (h0 : w.cell? ⟨p, 0, none⟩ = some (.pointer (some ⟨r, 0, none⟩))) (h1 : w.cell? ⟨r, 1, none⟩ = some (.bool true)) (h2 : w.frozen? ⟨r, 1, none⟩ = false) :
    CallsD Try.prog 60 #[.pointer (some ⟨p, 0, none⟩), .pointer (some ⟨q, 0, none⟩)] .returning w fun e u' w' =>
      e = .returned (.tuple #[]) ∧ u' = .returning ∧ w' = w.setCell ⟨r, 1, none⟩ (.bool false) := by
  refine callsD_of_wpS Try.func60 rfl fun c₀ cs hu => ?_
  apply wpS_seq
  apply wpS_region
  simp [wpOpsS, go_sem, hu, Try.ntmps60, Exit.thenS, h0, h1, h2, Array.replicate, List.replicate]
  apply wpS_seq
  apply wpS_region
  simp [wpOpsS, go_sem, recoverD, hu, Exit.thenS]
  refine wpS_of_wp ?_
  go_wp2
  cases c₀
  simp_all [bodyPostS, results, Try.results60]

set_option maxHeartbeats 800000 in
theorem Read1_stop (p q r : Nat) (c : Int) (x : Value) (older : List PanicEntry) (w : World) (h0 : w.cell? ⟨p, 0, none⟩ = some (.pointer (some ⟨r, 0, none⟩))) (h1 : w.cell? ⟨r, 1, none⟩ = some (.bool true)) (h2 : w.frozen? ⟨r, 1, none⟩ = false)
    (h3 : w.cell? ⟨q, 0, none⟩ = some x) (h4 : w.frozen? ⟨q, 0, none⟩ = false) (hqr : q ≠ r) (hq : q < w.heap.size) :
    CallsD Try.prog 60 #[.pointer (some ⟨p, 0, none⟩), .pointer (some ⟨q, 0, none⟩)] (.panicking ({ v := stopV c, recovered := false } :: older)) w fun e u' w' =>
      e = .returned (.tuple #[]) ∧ u' = .panicking ({ v := stopV c, recovered := true } :: older) ∧ w' = ((w.setCell ⟨r, 1, none⟩ (.bool false)).setCell ⟨q, 0, none⟩ (.int .i64 c)).alloc (.cells #[.int .i64 c] 113) := by
  refine callsD_of_wpS Try.func60 rfl fun c₀ cs hu => ?_
  unfold stopV at hu
  have g1 := stop_eql c
  have g2 := stop_is c
  apply wpS_seq
  apply wpS_region
  simp [wpOpsS, go_sem, hu, Try.ntmps60, Exit.thenS, h0, h1, h2, Array.replicate, List.replicate]
  apply wpS_seq
  apply wpS_region
  simp [wpOpsS, go_sem, recoverD, hu, Exit.thenS]
  refine wpS_of_wp ?_
  clear hu
  go_wp2_with fail
  exact ⟨rfl, _, rfl, .tuple #[], by simp [results, Try.results60], rfl, rfl, rfl⟩

theorem func_nil (f : Fn) (a b : Array Value) (w : World) : (binOp .eql 103 (.func f a b) .nilFunc).run Try.prog w = .ok (.bool false) w := by kernel_rfl

/-- What a reading closure that comes to its end leaves: the Reader at r with some rest; U: old blocks that it may turn; G: what else is known. -/
def Left (w1 : World) (r : Nat) (rest : List Int) (U : Nat → Prop) (G : World → Prop) (e : Ending) (w2 : World) : Prop :=
  e = .returned (.tuple #[]) ∧ (∃ A n cap, RdR w2 r A n cap rest true) ∧ Fr (fun k => k = r ∨ U k) w1 w2 ∧ G w2
/-- .. that is ended by an error. -/
def Died (w1 : World) (r : Nat) (c : Int) (U : Nat → Prop) (G : World → Prop) (e : Ending) (w2 : World) : Prop :=
  e = .panicked [{ v := stopV c, recovered := false }] ∧ (∃ s, Blk w2 r 111 #[s, .bool true]) ∧ Fr (fun k => k = r ∨ U k) w1 w2 ∧ G w2

/-- The blocks that Read makes for itself. -/
def Mine (w : World) : Nat → Prop := fun k => k = w.heap.size ∨ k = w.heap.size + 1

/-- What Read answers where what was asked came to its end. -/
def endCode (rest : List Int) : Int := if rest = [] then 0 else 27

theorem len_of_reads {w : World} {A : Option Addr} {n : Nat} {bs : List Int} (h : Reads w 1 A n (bytes bs)) : bs.length = n := by have := h.1; simpa [bytes] using this

set_option maxHeartbeats 800000 in
theorem Read_left4 {w : World} {A : Option Addr} {n cap : Nat} {bs rest : List Int} {f : Nat} {caps : Array Value} {U : Nat → Prop} {G : World → Prop} (hcall : ∀ args w, (callFunc f args).run Try.prog w = .ok (.enter f args) w)
    (hr : Reads w 1 A n (bytes bs)) (hle : n ≤ cap) (hbig : cap ≤ maxLen) (hU : ∀ k, U k → k < w.heap.size)
    (hbody : ∀ (w1 : World), Fr Nil w w1 → w1.heap.size = w.heap.size + 3 → RdR w1 (w.heap.size + 1) A n cap bs true → Calls Try.prog f (#[.pointer (some ⟨w.heap.size + 1, 0, none⟩)] ++ caps) w1 (Left w1 (w.heap.size + 1) rest U G))
    (hG : ∀ w2 w', Fr (Mine w) w2 w' → G w2 → G w') :
    Calls Try.prog 50 #[.slice A n cap, .func (.func f) #[] caps] w fun e w' => e = .returned (.int .i64 (endCode rest)) ∧ Fr U w w' ∧ G w' ∧ ∃ s, Blk w' (w.heap.size + 1) 111 #[s, .bool false] := by
  have hmf : ∀ (fn : Fn) (first cap : Array Value) (w : World), (Instr.makeFunc fn first cap).run Try.prog w = .ok (.func fn first cap) w := fun _ _ _ _ => rfl
  have hnf := func_nil (.func f) #[] caps
  go_enter_defers Try.func50, Try.ntmps50
  go_wp2_with fail
  have hF1 : Fr Nil w (((w.alloc (.cells #[.int .i64 0] 26)).alloc (.cells #[.slice A n cap, .bool true] 111)).alloc (.cells #[.pointer (some ⟨w.heap.size + 1, 0, none⟩)] 99)) := (((Fr.refl Nil w).alloc _).alloc _).alloc _
  have hB0 : Blk (((w.alloc (.cells #[.int .i64 0] 26)).alloc (.cells #[.slice A n cap, .bool true] 111)).alloc (.cells #[.pointer (some ⟨w.heap.size + 1, 0, none⟩)] 99)) w.heap.size 26 #[.int .i64 0] := ((Blk.new w _ _).alloc _).alloc _
  have hB1 : Blk (((w.alloc (.cells #[.int .i64 0] 26)).alloc (.cells #[.slice A n cap, .bool true] 111)).alloc (.cells #[.pointer (some ⟨w.heap.size + 1, 0, none⟩)] 99)) (w.heap.size + 1) 111 #[.slice A n cap, .bool true] := by
    have h := (Blk.new (w.alloc (.cells #[.int .i64 0] 26)) 111 #[.slice A n cap, .bool true]).alloc (.cells #[.pointer (some ⟨w.heap.size + 1, 0, none⟩)] 99)
    simpa using h
  have hB2 : Blk (((w.alloc (.cells #[.int .i64 0] 26)).alloc (.cells #[.slice A n cap, .bool true] 111)).alloc (.cells #[.pointer (some ⟨w.heap.size + 1, 0, none⟩)] 99)) (w.heap.size + 1 + 1) 99 #[.pointer (some ⟨w.heap.size + 1, 0, none⟩)] := by
    have h := Blk.new ((w.alloc (.cells #[.int .i64 0] 26)).alloc (.cells #[.slice A n cap, .bool true] 111)) 99 #[.pointer (some ⟨w.heap.size + 1, 0, none⟩)]
    simpa using h
  have hz : (((w.alloc (.cells #[.int .i64 0] 26)).alloc (.cells #[.slice A n cap, .bool true] 111)).alloc (.cells #[.pointer (some ⟨w.heap.size + 1, 0, none⟩)] 99)).heap.size = w.heap.size + 3 := by simp
  have hb := hbody _ hF1 hz ⟨hB1, hr.fr hF1 (fun _ _ e => e), hle, hbig⟩
  rw [show #[Value.pointer (some ⟨w.heap.size + 1, 0, none⟩)] ++ caps = (#[] : Array Value).push (Value.pointer (some ⟨w.heap.size + 1, 0, none⟩)) ++ caps from rfl] at hb
  generalize ((w.alloc (.cells #[.int .i64 0] 26)).alloc (.cells #[.slice A n cap, .bool true] 111)).alloc (.cells #[.pointer (some ⟨w.heap.size + 1, 0, none⟩)] 99) = w1 at *
  refine hb.mono ?_
  rintro e w2 ⟨rfl, ⟨A2, n2, c2, hR2⟩, hF2, hG2⟩
  have hC0 := hB0.fr hF2 (by rintro (h | h); omega; have := hU _ h; omega)
  have hC2 := hB2.fr hF2 (by rintro (h | h); omega; have := hU _ h; omega)
  have c0 := hC2.cell 0
  have c1 := hR2.blk.cell 0
  have c3 := hR2.blk.cell 1
  have c4 := hR2.blk.frozen 1
  have c5 := hC0.cell 0
  have c6 := hC0.frozen 0
  simp at c0 c1 c3 c5
  have hln := len_of_reads hR2.reads
  have hkept : ∀ x : Int, Blk ((w2.setCell ⟨w.heap.size, 0, none⟩ (.int .i64 x)).setCell ⟨w.heap.size + 1, 1, none⟩ (.bool false)) (w.heap.size + 1) 111 #[.slice A2 n2 c2, .bool false] := fun x => by
    have h := ((hR2.blk.far (p := ⟨w.heap.size, 0, none⟩) (by simp) (.int .i64 x)).set_ 1 (.bool false))
    simpa using h
  by_cases hrest : rest = []
  · have hn2 : n2 = 0 := by rw [← hln, hrest]; rfl
    subst hn2
    clear hln
    go_wp2
    refine leaves_cons (f := 60) (args := #[.pointer (some ⟨w.heap.size + 1 + 1, 0, none⟩), .pointer (some ⟨w.heap.size, 0, none⟩)]) (by simp) (by simp [go_sem]) ?_
    refine (Read1_idle (w.heap.size + 1 + 1) w.heap.size (w.heap.size + 1) _ (by simp [go_sem, c0]) (by simp [go_sem, c3]) (by simp [go_sem, c4])).mono ?_
    rintro e u' w'' ⟨rfl, rfl, rfl⟩
    refine ⟨.int .i64 0, by simp [results, Try.results50, go_sem, c5], ?_, ?_, ?_, _, hkept 0⟩
    · simp [endCode, hrest]
    · refine (hF1.mono (fun _ _ e => False.elim e)).trans (T := fun k => k = w.heap.size + 1 ∨ U k ∨ k = w.heap.size) (((hF2.mono (by rintro k _ (h | h); exact .inl h; exact .inr (.inl h))).setCell (.inr (.inr (.inr rfl))) _).setCell (.inr (.inl rfl)) _) ?_
      rintro k hk (h | h | h)
      · omega
      · exact h
      · omega
    · exact hG _ _ (((Fr.refl (Mine w) w2).setCell (.inr (.inl rfl)) _).setCell (.inr (.inr rfl)) _) hG2
  · have hn2 : (0 : Int) < (n2 : Int) := by
      have : 0 < rest.length := List.length_pos_iff.2 hrest
      omega
    clear hln
    go_wp2
    refine leaves_cons (f := 60) (args := #[.pointer (some ⟨w.heap.size + 1 + 1, 0, none⟩), .pointer (some ⟨w.heap.size, 0, none⟩)]) (by simp) (by simp [go_sem]) ?_
    refine (Read1_idle (w.heap.size + 1 + 1) w.heap.size (w.heap.size + 1) _ (by simp [go_sem, c0]) (by simp [go_sem, c3]) (by simp [go_sem, c4])).mono ?_
    rintro e u' w'' ⟨rfl, rfl, rfl⟩
    refine ⟨.int .i64 27, by simp [results, Try.results50, go_sem, c5], ?_, ?_, ?_, _, hkept 27⟩
    · simp [endCode, hrest]
    · refine (hF1.mono (fun _ _ e => False.elim e)).trans (T := fun k => k = w.heap.size + 1 ∨ U k ∨ k = w.heap.size) (((hF2.mono (by rintro k _ (h | h); exact .inl h; exact .inr (.inl h))).setCell (.inr (.inr (.inr rfl))) _).setCell (.inr (.inl rfl)) _) ?_
      rintro k hk (h | h | h)
      · omega
      · exact h
      · omega
    · exact hG _ _ (((Fr.refl (Mine w) w2).setCell (.inr (.inl rfl)) _).setCell (.inr (.inr rfl)) _) hG2

theorem Read_left {w : World} {A : Option Addr} {n cap : Nat} {bs rest : List Int} {f : Nat} {caps : Array Value} {U : Nat → Prop} {G : World → Prop} (hcall : ∀ args w, (callFunc f args).run Try.prog w = .ok (.enter f args) w)
    (hr : Reads w 1 A n (bytes bs)) (hle : n ≤ cap) (hbig : cap ≤ maxLen) (hU : ∀ k, U k → k < w.heap.size)
    (hbody : ∀ (w1 : World), Fr Nil w w1 → w1.heap.size = w.heap.size + 3 → RdR w1 (w.heap.size + 1) A n cap bs true → Calls Try.prog f (#[.pointer (some ⟨w.heap.size + 1, 0, none⟩)] ++ caps) w1 (Left w1 (w.heap.size + 1) rest U G))
    (hG : ∀ w2 w', Fr (Mine w) w2 w' → G w2 → G w') :
    Calls Try.prog 50 #[.slice A n cap, .func (.func f) #[] caps] w fun e w' => e = .returned (.int .i64 (endCode rest)) ∧ Fr U w w' ∧ G w' := (Read_left4 hcall hr hle hbig hU hbody hG).mono fun e w' h => ⟨h.1, h.2.1, h.2.2.1⟩

set_option maxHeartbeats 800000 in
theorem Read_died {w : World} {A : Option Addr} {n cap : Nat} {bs : List Int} {c : Int} {f : Nat} {caps : Array Value} {U : Nat → Prop} {G : World → Prop} (hcall : ∀ args w, (callFunc f args).run Try.prog w = .ok (.enter f args) w)
    (hr : Reads w 1 A n (bytes bs)) (hle : n ≤ cap) (hbig : cap ≤ maxLen) (hU : ∀ k, U k → k < w.heap.size)
    (hbody : ∀ (w1 : World), Fr Nil w w1 → w1.heap.size = w.heap.size + 3 → RdR w1 (w.heap.size + 1) A n cap bs true → Calls Try.prog f (#[.pointer (some ⟨w.heap.size + 1, 0, none⟩)] ++ caps) w1 (Died w1 (w.heap.size + 1) c U G))
    (hG : ∀ w2 w', Fr (Mine w) w2 w' → G w2 → G w') :
    Calls Try.prog 50 #[.slice A n cap, .func (.func f) #[] caps] w fun e w' => e = .returned (.int .i64 (c)) ∧ Fr U w w' ∧ G w' := by
  have hmf : ∀ (fn : Fn) (first cap : Array Value) (w : World), (Instr.makeFunc fn first cap).run Try.prog w = .ok (.func fn first cap) w := fun _ _ _ _ => rfl
  have hnf := func_nil (.func f) #[] caps
  go_enter_defers Try.func50, Try.ntmps50
  go_wp2_with fail
  have hF1 : Fr Nil w (((w.alloc (.cells #[.int .i64 0] 26)).alloc (.cells #[.slice A n cap, .bool true] 111)).alloc (.cells #[.pointer (some ⟨w.heap.size + 1, 0, none⟩)] 99)) := (((Fr.refl Nil w).alloc _).alloc _).alloc _
  have hB0 : Blk (((w.alloc (.cells #[.int .i64 0] 26)).alloc (.cells #[.slice A n cap, .bool true] 111)).alloc (.cells #[.pointer (some ⟨w.heap.size + 1, 0, none⟩)] 99)) w.heap.size 26 #[.int .i64 0] := ((Blk.new w _ _).alloc _).alloc _
  have hB1 : Blk (((w.alloc (.cells #[.int .i64 0] 26)).alloc (.cells #[.slice A n cap, .bool true] 111)).alloc (.cells #[.pointer (some ⟨w.heap.size + 1, 0, none⟩)] 99)) (w.heap.size + 1) 111 #[.slice A n cap, .bool true] := by
    have h := (Blk.new (w.alloc (.cells #[.int .i64 0] 26)) 111 #[.slice A n cap, .bool true]).alloc (.cells #[.pointer (some ⟨w.heap.size + 1, 0, none⟩)] 99)
    simpa using h
  have hB2 : Blk (((w.alloc (.cells #[.int .i64 0] 26)).alloc (.cells #[.slice A n cap, .bool true] 111)).alloc (.cells #[.pointer (some ⟨w.heap.size + 1, 0, none⟩)] 99)) (w.heap.size + 1 + 1) 99 #[.pointer (some ⟨w.heap.size + 1, 0, none⟩)] := by
    have h := Blk.new ((w.alloc (.cells #[.int .i64 0] 26)).alloc (.cells #[.slice A n cap, .bool true] 111)) 99 #[.pointer (some ⟨w.heap.size + 1, 0, none⟩)]
    simpa using h
  have hz : (((w.alloc (.cells #[.int .i64 0] 26)).alloc (.cells #[.slice A n cap, .bool true] 111)).alloc (.cells #[.pointer (some ⟨w.heap.size + 1, 0, none⟩)] 99)).heap.size = w.heap.size + 3 := by simp
  have hb := hbody _ hF1 hz ⟨hB1, hr.fr hF1 (fun _ _ e => e), hle, hbig⟩
  rw [show #[Value.pointer (some ⟨w.heap.size + 1, 0, none⟩)] ++ caps = (#[] : Array Value).push (Value.pointer (some ⟨w.heap.size + 1, 0, none⟩)) ++ caps from rfl] at hb
  generalize ((w.alloc (.cells #[.int .i64 0] 26)).alloc (.cells #[.slice A n cap, .bool true] 111)).alloc (.cells #[.pointer (some ⟨w.heap.size + 1, 0, none⟩)] 99) = w1 at *
  refine hb.mono ?_
  rintro e w2 ⟨rfl, ⟨s, hR2⟩, hF2, hG2⟩
  have hC0 := hB0.fr hF2 (by rintro (h | h); omega; have := hU _ h; omega)
  have hC2 := hB2.fr hF2 (by rintro (h | h); omega; have := hU _ h; omega)
  have c0 := hC2.cell 0
  have c3 := hR2.cell 1
  have c4 := hR2.frozen 1
  have c5 := hC0.cell 0
  have c6 := hC0.frozen 0
  have hlt := hC0.lt
  simp at c0 c3 c5
  show bodyPostD _ _ _ _ _ _
  refine leaves_cons (f := 60) (args := #[.pointer (some ⟨w.heap.size + 1 + 1, 0, none⟩), .pointer (some ⟨w.heap.size, 0, none⟩)]) (by simp) (by simp [go_sem]) ?_
  refine (Read1_stop (w.heap.size + 1 + 1) w.heap.size (w.heap.size + 1) c _ [] _ c0 c3 c4 c5 c6 (by omega) hlt).mono ?_
  rintro e u' w'' ⟨rfl, rfl, rfl⟩
  have hfin := (((hC0.far (p := ⟨w.heap.size + 1, 1, none⟩) (by simp) (.bool false)).set_ 0 (.int .i64 c)).alloc (.cells #[.int .i64 c] 113)).cell 0
  simp at hfin
  refine ⟨.int .i64 c, by simp [results, Try.results50, go_sem, hfin], ?_, ?_, ?_⟩
  · rfl
  · refine (hF1.mono (fun _ _ e => False.elim e)).trans (T := fun k => k = w.heap.size + 1 ∨ U k ∨ k = w.heap.size) ((((hF2.mono (by rintro k _ (h | h); exact .inl h; exact .inr (.inl h))).setCell (.inr (.inl rfl)) _).setCell (.inr (.inr (.inr rfl))) _).alloc _) ?_
    rintro k hk (h | h | h)
    · omega
    · exact h
    · omega
  · exact hG _ _ ((((Fr.refl (Mine w) w2).setCell (.inr (.inr rfl)) _).setCell (.inr (.inl rfl)) _).alloc _) hG2

end Go.Proofs.Ytemhhhikopemmaa
