/- Messages in memory; whether one may be one. -/
import Derived.Test.YtinomilmccopnaaPkS
namespace Go.Proofs.Ytinomilmccopnaa
open Go.RowKit
attribute [local go_sem ↓] Go.wp_at_zero Go.wp_at_succ

/-! ### A value at any place -/
section
variable {P : Program}
theorem run_loadVar_at (w : World) (a : Addr) (ty : TypeId) (cs : List Value) (d : TypeDesc) (hc : ∀ j v, cs[j]? = some v → w.cell? (a.add j) = some v)
    (hu : P.underlying ty = some d) (hd : (match d with | .struct _ | .array _ _ => true | _ => false) = true) (hi : (P.info? ty).map (·.size) = some cs.length) :
    (loadVar ty a).run P w = .ok (.agg cs.toArray) w := by
  have hl := run_loadCells_list (P := P) w a cs hc
  cases hq : P.info? ty with
  | none => simp [hq] at hi
  | some i =>
    have hs : i.size = cs.length := by simpa [hq] using hi
    have hagg : (isAgg ty).run P w = .ok true w := by
      unfold isAgg
      rw [Sem.run_bind, run_underlying hu w]
      cases d <;> simp_all
    simp [loadVar, Sem.run_bind, hagg, sizeOf, typeInfo, hq, hs, hl]

theorem wpList_load_at {ops : Array Oper} {rest : List Oper} {o : Oper} {a : Act} {w : World} {Q : Exit → Act → World → Prop} (hgd : o.guard = none) (ty : TypeId) (x : Operand) (ho : o.op = .load ty x)
    (ad : Addr) (hx : a.eval x = .pointer (some ad)) (cs : List Value) (d : TypeDesc) (hc : ∀ j v, cs[j]? = some v → w.cell? (ad.add j) = some v)
    (hu : P.underlying ty = some d) (hd : (match d with | .struct _ | .array _ _ => true | _ => false) = true) (n : Nat) (hi : (P.info? ty).map (·.size) = some n) (hn : cs.length = n)
    (h : wpList P ops Q rest (a.put o.dst (.agg cs.toArray)) w) : wpList P ops Q (o :: rest) a w := by
  refine wpList_plain hgd fun K hK => ?_
  unfold Oper.wp execOp
  simp only [ho, hx, Instr.loadAt, Instr.sureAddr, Sem.run_bind, Sem.run_pure, Result.andThen_ok, run_loadVar_at w ad ty cs d hc hu hd (by rw [hn]; exact hi)]
  exact hK _ _ h
end

theorem cell_fr {S : Nat → Prop} {w w' : World} {p : Addr} {v : Value} (hf : Fr S w w') (hp : ¬ S p.block) (h : w.cell? p = some v) : w'.cell? p = some v := by
  have hlt : p.block < w.heap.size := by
    by_cases hc : p.block < w.heap.size
    · exact hc
    · unfold World.cell? at h
      rw [Array.getElem?_eq_none (by omega)] at h
      cases h
  rw [hf.cell hlt hp]
  exact h

/-! ### Entries -/
structure Ent where
  id : List Int
  time : Int
  pub : List Int
  share : List Int
  code : Int

def entCells (e : Ent) (A : Option Addr) (n c : Nat) (B : Option Addr) (m d : Nat) : List Value := bytes e.id ++ [.int .u64 e.time, .slice A n c, .slice B m d, .int .i64 e.code]

/-- These cells are an entry. -/
structure EntIs (w : World) (cs : List Value) (e : Ent) : Prop where
  form : ∃ A n c B m d, cs = entCells e A n c B m d ∧ Reads w 1 A n (bytes e.pub) ∧ Reads w 1 B m (bytes e.share)
  len : e.id.length = 16

theorem EntIs.fr {w w' : World} {cs : List Value} {e : Ent} (h : EntIs w cs e) (hf : Fr Nil w w') : EntIs w' cs e := by
  obtain ⟨⟨A, n, c, B, m, d, h1, h2, h3⟩, hl⟩ := h
  exact ⟨⟨A, n, c, B, m, d, h1, h2.fr hf (fun _ _ e => e), h3.fr hf (fun _ _ e => e)⟩, hl⟩
theorem EntIs.cells {w : World} {cs : List Value} {e : Ent} (h : EntIs w cs e) : cs.length = 20 := by
  obtain ⟨⟨A, n, c, B, m, d, h1, _, _⟩, hl⟩ := h
  rw [h1]
  simp [entCells, bytes, hl]
theorem EntIs.one {w : World} {cs : List Value} {e : Ent} (h : EntIs w cs e) : ∀ v ∈ cs, v.oneCell' = true := by
  obtain ⟨⟨A, n, c, B, m, d, rfl, _, _⟩, hl⟩ := h
  intro v hv
  simp only [entCells, List.mem_append, List.mem_cons, List.not_mem_nil, or_false] at hv
  rcases hv with hv | rfl | rfl | rfl | rfl
  · exact one_bytes _ v hv
  all_goals rfl

/-- The entries of a slice. -/
def EntsIs (w : World) (A : Option Addr) (n : Nat) (es : List Ent) : Prop :=
  es.length = n ∧ (0 < n → ∃ ad, A = some ad ∧ ∀ j e, es[j]? = some e → ∃ cs, EntIs w cs e ∧ ∀ k v, cs[k]? = some v → w.cell? ((ad.add (j * 20)).add k) = some v)
theorem EntsIs.fr {w w' : World} {A : Option Addr} {n : Nat} {es : List Ent} (h : EntsIs w A n es) (hf : Fr Nil w w') : EntsIs w' A n es := by
  refine ⟨h.1, fun hn => ?_⟩
  obtain ⟨ad, hA, hj⟩ := h.2 hn
  refine ⟨ad, hA, fun j e he => ?_⟩
  obtain ⟨cs, h1, h2⟩ := hj j e he
  exact ⟨cs, h1.fr hf, fun k v hv => cell_fr hf (fun e => e) (h2 k v hv)⟩

/-- What is wrong with an entry; 0: nothing. -/
def entCheck (e : Ent) : Int :=
  if 1099511627776 < e.time ∨ e.code < 0 ∨ 31 < e.code then 6 else if 65536 < (e.pub.length : Int) ∨ 65536 < (e.share.length : Int) then 4 else 0

theorem len16 {xs : List Int} (h : xs.length = 16) : ∃ x0 x1 x2 x3 x4 x5 x6 x7 x8 x9 x10 x11 x12 x13 x14 x15, xs = [x0, x1, x2, x3, x4, x5, x6, x7, x8, x9, x10, x11, x12, x13, x14, x15] := by
  match xs, h with
  | [x0, x1, x2, x3, x4, x5, x6, x7, x8, x9, x10, x11, x12, x13, x14, x15], _ => exact ⟨x0, x1, x2, x3, x4, x5, x6, x7, x8, x9, x10, x11, x12, x13, x14, x15, rfl⟩

set_option maxRecDepth 100000 in
set_option maxHeartbeats 4000000 in
theorem EntryCheck_any {w : World} {cs : List Value} {en : Ent} (h : EntIs w cs en) :
    Calls Try.prog 66 #[.agg cs.toArray] w fun e w' => e = .returned (.int .i64 (entCheck en)) ∧ Fr Nil w w' := by
  obtain ⟨⟨A, n, c, B, m, d, rfl, h2, h3⟩, hl⟩ := h
  have l2 : (en.pub.length : Int) = (n : Int) := by have := len_of_reads h2; omega
  have l3 : (en.share.length : Int) = (m : Int) := by have := len_of_reads h3; omega
  obtain ⟨id, time, pub, share, code⟩ := en
  unfold entCheck
  simp only at hl l2 l3 ⊢
  rw [l2, l3]
  clear l2 l3 h2 h3
  obtain ⟨x0, x1, x2, x3, x4, x5, x6, x7, x8, x9, x10, x11, x12, x13, x14, x15, rfl⟩ := len16 hl
  clear hl
  simp only [entCells, bytes, List.map_cons, List.map_nil, List.cons_append, List.nil_append]
  by_cases c1 : 1099511627776 < time
  · go_enter Try.func66, Try.ntmps66
    go_wp2
    go_ret
    exact ⟨ret_int (by simp [c1]), (Fr.refl Nil w).alloc _⟩
  · by_cases c2 : code < 0
    · go_enter Try.func66, Try.ntmps66
      go_wp2
      go_ret
      exact ⟨ret_int (by simp [c2]), (Fr.refl Nil w).alloc _⟩
    · by_cases c3 : 31 < code
      · go_enter Try.func66, Try.ntmps66
        go_wp2
        go_ret
        exact ⟨ret_int (by simp [c3]), (Fr.refl Nil w).alloc _⟩
      · rw [if_neg (by omega)]
        by_cases c4 : 65536 < (n : Int)
        · go_enter Try.func66, Try.ntmps66
          go_wp2
          go_ret
          exact ⟨ret_int (by simp [c4]), (Fr.refl Nil w).alloc _⟩
        · by_cases c5 : 65536 < (m : Int)
          · go_enter Try.func66, Try.ntmps66
            go_wp2
            go_ret
            exact ⟨ret_int (by simp [c5]), (Fr.refl Nil w).alloc _⟩
          · rw [if_neg (by omega)]
            go_enter Try.func66, Try.ntmps66
            go_wp2
            go_ret
            exact ⟨rfl, (Fr.refl Nil w).alloc _⟩

end Go.Proofs.Ytinomilmccopnaa
