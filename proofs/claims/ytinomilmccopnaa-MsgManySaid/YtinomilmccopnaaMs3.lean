/- Messages as bytes: Encode. -/
import Derived.Test.YtinomilmccopnaaMs2
namespace Go.Proofs.Ytinomilmccopnaa
open Go.RowKit
attribute [local go_sem ↓] Go.wp_at_zero Go.wp_at_succ

/-- A Writer of the call's own (w0: where the call began). -/
def Wri (w0 w : World) (b : Nat) (bs : List Int) : Prop := ∃ v, WrR w b v bs ∧ w0.heap.size ≤ b ∧ (∀ k, v.ownBlock = some k → w0.heap.size ≤ k) ∧ Fr Nil w0 w
/-- Blocks of other types stay. -/
def Keep (w w' : World) : Prop := ∀ (g : Nat) (t : TypeId) (cs : Array Value), t ≠ 5 → t ≠ 55 → Blk w g t cs → Blk w' g t cs

theorem wri_put {w0 w w' : World} {b : Nat} {v : Value} {bs xs : List Int} {e : Ending} (h : WrR w b v bs) (hb : w0.heap.size ≤ b) (hv : ∀ k, v.ownBlock = some k → w0.heap.size ≤ k) (hF : Fr Nil w0 w) (hp : Put w b v bs xs e w') :
    Wri w0 w' b (bs ++ xs) ∧ Keep w w' := by
  obtain ⟨_, hf, v', hR, hM⟩ := hp
  refine ⟨⟨v', hR, hb, fun k hk => ?_, hF.trans hf (fun k hk e => ?_)⟩, fun g t cs h1 h2 hB => ?_⟩
  · rcases hM k hk with e | e
    · exact hv k e
    · exact Nat.le_trans hF.size e
  · rcases e with e | e
    · omega
    · have := hv k e; omega
  · refine hB.fr hf ?_
    rintro (e | e)
    · exact hB.ne_ h.blk h2 e
    · exact own_ne h.own hB (Ne.symm h1) e

theorem Wri.uint {w0 w : World} {b : Nat} {bs : List Int} (h : Wri w0 w b bs) (n : Int) (hn0 : 0 ≤ n) (hn1 : n ≤ 18446744073709551615) (z : Int) (hm : bs.length ≤ 35184372088832) :
    Calls Try.prog 23 #[.pointer (some ⟨b, 0, none⟩), .int .u64 n, .int .i64 z] w fun e w' => e = .returned (.tuple #[]) ∧ Wri w0 w' b (bs ++ le n (clamp8 z)) ∧ Keep w w' := by
  obtain ⟨v, hR, hb, hv, hF⟩ := h
  exact (WUint_any hR n hn0 hn1 z (by omega)).mono fun e w' hp => ⟨hp.ok, wri_put hR hb hv hF hp⟩
theorem Wri.raw {w0 w : World} {b : Nat} {bs xs : List Int} {A : Option Addr} {m cap : Nat} (h : Wri w0 w b bs) (hr : Reads w 1 A m (bytes xs)) (hm : bs.length + m ≤ 35184372088832) :
    Calls Try.prog 50 #[.pointer (some ⟨b, 0, none⟩), .slice A m cap] w fun e w' => e = .returned (.tuple #[]) ∧ Wri w0 w' b (bs ++ xs) ∧ Keep w w' := by
  obtain ⟨v, hR, hb, hv, hF⟩ := h
  exact (WRaw_any hR hr (by omega)).mono fun e w' hp => ⟨hp.ok, wri_put hR hb hv hF hp⟩

theorem Keep.trans {a b c : World} (h : Keep a b) (h' : Keep b c) : Keep a c := fun g t cs h1 h2 hB => h' g t cs h1 h2 (h g t cs h1 h2 hB)
theorem Wri.fr {w0 w : World} {b : Nat} {bs : List Int} (h : Wri w0 w b bs) : Fr Nil w0 w := h.choose_spec.2.2.2

/-- .. where new blocks are written. -/
theorem Wri.other {S : Nat → Prop} {w0 w w' : World} {b : Nat} {bs : List Int} (h : Wri w0 w b bs) (hf : Fr S w w') (hS : ∀ k, S k → w.heap.size ≤ k) : Wri w0 w' b bs := by
  obtain ⟨v, hR, hb, hv, hF⟩ := h
  exact ⟨v, hR.fr hf (fun e => by have := hS _ e; have := hR.blk.lt; omega) (fun k hk e => by have := hS _ e; have := own_lt hR.own hk; omega), hb, hv, hF.trans hf (fun k hk e => by have := hS _ e; have := hF.size; omega)⟩

set_option maxRecDepth 100000 in
set_option maxHeartbeats 800000 in
theorem Wri.long {w0 w : World} {b : Nat} {bs xs : List Int} {A : Option Addr} {m cap : Nat} (h : Wri w0 w b bs) (hr : Reads w0 1 A m (bytes xs)) (hm : bs.length + m ≤ 17592186044416) :
    Calls Try.prog 35 #[.pointer (some ⟨b, 0, none⟩), .slice A m cap] w fun e w' => e = .returned (.tuple #[]) ∧ Wri w0 w' b (bs ++ (le m 4 ++ xs)) ∧ Keep w w' := by
  have HM := Lib.hid hm
  clear hm
  have hm0 : (0 : Int) ≤ (m : Int) := by omega
  have hmc : IntKind.u64.wrap (m : Int) = (m : Int) := by rw [IntKind.wrap_u64]; have := HM.out; omega
  go_enter Try.func35, Try.ntmps35
  go_wp2_with (first | (go_at_call 23; refine (h.uint (m : Int) (by omega) (by have := HM.out; omega) 4 (by have := HM.out; omega)).mono ?_; rintro e w2 ⟨rfl, hW2, hK2⟩; rw [show clamp8 4 = 4 from rfl] at hW2) | (go_at_call 50; refine (hW2.raw (hr.fr hW2.fr (fun _ _ e => e)) (by have := HM.out; simp [le_len]; omega)).mono ?_; rintro e w3 ⟨rfl, hW3, hK3⟩))
  go_end0
  exact ⟨rfl, by rw [← List.append_assoc]; exact hW3, hK2.trans hK3⟩

def encE (e : Ent) : List Int := e.id ++ le e.time 6 ++ le e.code 1 ++ (le e.pub.length 4 ++ e.pub) ++ (le e.share.length 4 ++ e.share)
def encEs (es : List Ent) : List Int := (es.map encE).flatten
def encH (m : Msg) : List Int := le m.kind 1 ++ le m.job 6 ++ le m.start 6 ++ le m.many 2 ++ m.sum ++ le m.code 1 ++ le m.es.length 2
def encM (m : Msg) : List Int := encH m ++ encEs m.es

theorem encEs_snoc {es : List Ent} {j : Nat} {e : Ent} (h : es[j]? = some e) : encEs (es.take (j + 1)) = encEs (es.take j) ++ encE e := by
  obtain ⟨hj, rfl⟩ := List.getElem?_eq_some_iff.1 h
  simp only [encEs]
  rw [List.take_succ_eq_append_getElem hj, List.map_append, List.flatten_append]
  simp only [List.map_cons, List.map_nil, List.flatten_cons, List.flatten_nil, List.append_nil]

theorem encE_len {e : Ent} (h : e.id.length = 16) : (encE e).length = 31 + e.pub.length + e.share.length := by
  simp [encE, le_len, h]; omega

theorem encEs_len {es : List Ent} (h : ∀ e ∈ es, e.id.length = 16 ∧ e.pub.length ≤ 65536 ∧ e.share.length ≤ 65536) : (encEs es).length ≤ es.length * 131103 := by
  induction es with
  | nil => simp [encEs]
  | cons e r ih =>
    have h1 := ih (fun x hx => h x (by simp [hx]))
    obtain ⟨a, b, c⟩ := h e (by simp)
    have h2 := encE_len a
    simp only [encEs, List.map_cons, List.flatten_cons, List.length_append, List.length_cons] at h1 ⊢
    omega

theorem firstBad_zero {es : List Ent} (h : firstBad es = 0) : ∀ e ∈ es, entCheck e = 0 := by
  induction es with
  | nil => simp
  | cons e r ih =>
    unfold firstBad at h
    by_cases hz : entCheck e = 0
    · rw [if_pos hz] at h
      intro x hx
      rcases List.mem_cons.1 hx with rfl | hx
      · exact hz
      · exact ih h x hx
    · rw [if_neg hz] at h
      exact absurd h hz
theorem entCheck_zero {e : Ent} (h : entCheck e = 0) : e.time ≤ 1099511627776 ∧ 0 ≤ e.code ∧ e.code ≤ 31 ∧ e.pub.length ≤ 65536 ∧ e.share.length ≤ 65536 := by
  unfold entCheck at h
  split at h
  · omega
  · split at h
    · omega
    · omega
theorem msgCheck_zero {m : Msg} (h : msgCheck m = 0) : 1 ≤ m.kind ∧ m.kind ≤ 7 ∧ m.job ≤ 1099511627776 ∧ m.start ≤ 1099511627776 ∧ 0 ≤ m.many ∧ m.many ≤ 256 ∧ 0 ≤ m.code ∧ m.code ≤ 31 ∧ m.es.length ≤ 256 ∧ ∀ e ∈ m.es, entCheck e = 0 := by
  unfold msgCheck at h
  split at h
  · omega
  split at h
  · omega
  split at h
  · omega
  split at h
  · omega
  refine ⟨by omega, by omega, by omega, by omega, by omega, by omega, by omega, by omega, by omega, firstBad_zero h⟩

end Go.Proofs.Ytinomilmccopnaa
