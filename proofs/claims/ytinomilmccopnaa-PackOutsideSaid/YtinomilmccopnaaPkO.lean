/- Read without a take; with one that keeps the Reader; with one that panics by itself. -/
import Derived.Test.YtinomilmccopnaaPkS
import Derived.WalkLawsBesides
namespace Go.Proofs.Ytinomilmccopnaa
open Go.RowKit
attribute [local go_sem ↓] Go.wp_at_zero Go.wp_at_succ

theorem call_keeps : ∀ args w, (callFunc 45 args).run Try.prog w = .ok (.enter 45 args) w := fun args w => by kernel_rfl
theorem call_other2 : ∀ args w, (callFunc 65 args).run Try.prog w = .ok (.enter 65 args) w := fun args w => by kernel_rfl

/-- The closure that keeps the Reader. -/
theorem keeps {w : World} {r g : Nat} {A : Option Addr} {n cap : Nat} {bs : List Int} {x : Value} (h : RdR w r A n cap bs true) (hg : Blk w g 59 #[x]) (hgr : g ≠ r) (hx : ∀ z, x ≠ .int .u8 z) :
    Calls Try.prog 45 #[.pointer (some ⟨r, 0, none⟩), .pointer (some ⟨g, 0, none⟩)] w
      (Left w r bs (fun k => k = g) (fun W => Blk W g 59 #[.pointer (some ⟨r, 0, none⟩)])) := by
  have d0 := hg.cell 0
  have d1 := hg.frozen 0
  simp at d0
  go_enter Try.func45, Try.ntmps45
  go_wp2
  go_end0
  have hFs : Fr (fun k => k = g) w (w.setCell ⟨g, 0, none⟩ (.pointer (some ⟨r, 0, none⟩))) := (Fr.refl (fun k => k = g) w).setCell (.inr rfl) _
  exact ⟨rfl, ⟨A, n, cap, h.other hg (by intro u hu z; simp at hu; subst hu; exact hx z) hgr hFs⟩, hFs.mono (fun _ _ e => .inr e), by simpa using hg.set_ 0 (.pointer (some ⟨r, 0, none⟩))⟩

theorem nil_nil (w : World) : (binOp .eql 61 .nilFunc .nilFunc).run Try.prog w = .ok (.bool true) w := by kernel_rfl

set_option maxHeartbeats 800000 in
theorem Read_nil (A : Option Addr) (n cap : Nat) (w : World) :
    Calls Try.prog 24 #[.slice A n cap, .nilFunc] w fun e w' => e = .returned (.int .i64 1) ∧ Fr Nil w w' := by
  have hnf := nil_nil
  go_enter_defers Try.func24, Try.ntmps24
  go_wp2
  exact ⟨.int .i64 1, by simp [results, Try.results24, go_sem], rfl, (Fr.refl Nil w).alloc _⟩

/-- What the closure panics with. -/
def oth : Value := .iface 9 (.string ⟨#[111, 116, 104, 101, 114]⟩)
theorem oth_eql (w : World) : (binOp .eql 20 (.iface 9 (.string ⟨#[111, 116, 104, 101, 114]⟩)) .nilIface).run Try.prog w = .ok (.bool false) w := by kernel_rfl
theorem oth_is (w : World) : (Instr.typeAssert (.iface 9 (.string ⟨#[111, 116, 104, 101, 114]⟩)) 20 108 true).run Try.prog w = .ok (.tuple #[.agg #[.int .i64 0], .bool false]) w := by kernel_rfl
theorem oth_str (w : World) : (Instr.typeAssert (.iface 9 (.string ⟨#[111, 116, 104, 101, 114]⟩)) 20 9 true).run Try.prog w = .ok (.tuple #[.string ⟨#[111, 116, 104, 101, 114]⟩, .bool true]) w := by kernel_rfl

set_option maxHeartbeats 400000 in
theorem other2 (r : Nat) (w : World) :
    Calls Try.prog 65 #[.pointer (some ⟨r, 0, none⟩)] w fun e w' => e = .panicked [{ v := oth, recovered := false }] ∧ w = w' := by
  unfold oth
  go_enter Try.func65, Try.ntmps65
  go_wp2
  exact ⟨rfl, rfl, rfl⟩

set_option maxHeartbeats 800000 in
theorem Read1_other (p q r : Nat) (older : List PanicEntry) (w : World) (h0 : w.cell? ⟨p, 0, none⟩ = some (.pointer (some ⟨r, 0, none⟩))) (h1 : w.cell? ⟨r, 1, none⟩ = some (.bool true)) (h2 : w.frozen? ⟨r, 1, none⟩ = false) :
    CallsD Try.prog 60 #[.pointer (some ⟨p, 0, none⟩), .pointer (some ⟨q, 0, none⟩)] (.panicking ({ v := oth, recovered := false } :: older)) w fun e u' w' =>
      e = .panicked [{ v := oth, recovered := false }] ∧ u' = .panicking ({ v := oth, recovered := true } :: older) ∧ w' = (w.setCell ⟨r, 1, none⟩ (.bool false)) := by
  refine callsD_of_wpS Try.func60 rfl fun c₀ cs hu => ?_
  unfold oth at hu ⊢
  have g1 := oth_eql
  have g2 := oth_is
  apply wpS_seq
  apply wpS_region
  simp [wpOpsS, go_sem, hu, Try.ntmps60, Exit.thenS, h0, h1, h2, Array.replicate, List.replicate]
  apply wpS_seq
  apply wpS_region
  simp [wpOpsS, go_sem, recoverD, hu, Exit.thenS]
  refine wpS_of_wp ?_
  clear hu
  go_wp2
  exact ⟨rfl, _, rfl, rfl, rfl, rfl⟩

set_option maxHeartbeats 800000 in
theorem Read_other {w : World} {A : Option Addr} {n cap : Nat} :
    Calls Try.prog 24 #[.slice A n cap, .func (.func 65) #[] #[]] w fun e w' => e = .panicked [{ v := oth, recovered := false }, { v := oth, recovered := true }] ∧ Fr Nil w w' := by
  have hmf : ∀ (fn : Fn) (first cap : Array Value) (w : World), (Instr.makeFunc fn first cap).run Try.prog w = .ok (.func fn first cap) w := fun _ _ _ _ => rfl
  have hnf := func_nil (.func 65) #[] #[]
  have hcall := call_other2
  go_enter_defers Try.func24, Try.ntmps24
  go_wp2_with fail
  refine (other2 _ _).mono ?_
  rintro e w2 ⟨rfl, rfl⟩
  show bodyPostD _ _ _ _ _ _
  refine leaves_cons (f := 60) (args := #[.pointer (some ⟨w.heap.size + 1 + 1, 0, none⟩), .pointer (some ⟨w.heap.size, 0, none⟩)]) (by simp) (by simp [go_sem]) ?_
  refine (Read1_other (w.heap.size + 1 + 1) w.heap.size (w.heap.size + 1) [] _ (by simp [go_sem]) (by simp [go_sem]) (by simp [go_sem])).mono ?_
  rintro e u' w'' ⟨rfl, rfl, rfl⟩
  exact ⟨rfl, ((((Fr.refl Nil w).alloc _).alloc _).alloc _).setCell (.inl (by simp)) _⟩

set_option maxHeartbeats 800000 in
theorem other1 (q : Nat) (x : Value) (older : List PanicEntry) (w : World) (h3 : w.cell? ⟨q, 0, none⟩ = some x) (h4 : w.frozen? ⟨q, 0, none⟩ = false) :
    CallsD Try.prog 64 #[.pointer (some ⟨q, 0, none⟩)] (.panicking ({ v := oth, recovered := false } :: older)) w fun e u' w' =>
      e = .returned (.tuple #[]) ∧ u' = .panicking ({ v := oth, recovered := true } :: older) ∧ w' = w.setCell ⟨q, 0, none⟩ (.string ⟨#[111, 116, 104, 101, 114]⟩) := by
  refine callsD_of_wpS Try.func64 rfl fun c₀ cs hu => ?_
  unfold oth at hu ⊢
  have g2 := oth_str
  apply wpS_region
  simp [wpOpsS, go_sem, recoverD, hu, Try.ntmps64, Exit.thenS, h3, h4, g2, Array.replicate, List.replicate]
  trace_state
  simp [bodyPostS, results, Try.results64]

theorem Other_any (A : Option Addr) (n cap : Nat) (w : World) :
    Calls Try.prog 52 #[.slice A n cap] w fun e w' => e = .returned (.string ⟨#[111, 116, 104, 101, 114]⟩) ∧ Fr Nil w w' := by
  have hmf : ∀ (fn : Fn) (first cap : Array Value) (w : World), (Instr.makeFunc fn first cap).run Try.prog w = .ok (.func fn first cap) w := fun _ _ _ _ => rfl
  go_enter_defers Try.func52, Try.ntmps52
  go_wp2_with fail
  refine Read_other.mono ?_
  rintro e w2 ⟨rfl, hF⟩
  have hb := (Blk.new w 9 #[.string ⟨#[]⟩]).fr hF (fun e => e)
  have c0 := hb.cell 0
  have c1 := hb.frozen 0
  simp at c0
  show bodyPostD _ _ _ _ _ _
  refine leaves_cons (f := 64) (args := #[.pointer (some ⟨w.heap.size, 0, none⟩)]) (by simp) (by simp [go_sem]) ?_
  refine (other1 w.heap.size _ [{ v := oth, recovered := true }] _ c0 c1).mono ?_
  rintro e u' w'' ⟨rfl, rfl, rfl⟩
  have hfin := (hb.set_ 0 (.string ⟨#[111, 116, 104, 101, 114]⟩)).cell 0
  simp at hfin
  refine ⟨.string ⟨#[111, 116, 104, 101, 114]⟩, by simp [results, Try.results52, go_sem, hfin], ?_, ?_⟩
  · rfl
  · exact (((Fr.refl Nil w).alloc _).trans hF (fun _ _ e => e)).setCell (.inl (Nat.le_refl _)) _

end Go.Proofs.Ytinomilmccopnaa
