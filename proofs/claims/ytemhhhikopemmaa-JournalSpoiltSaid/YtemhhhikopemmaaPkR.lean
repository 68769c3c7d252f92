/- Reading within pack.Read: what the deferred function does. -/
import Derived.Test.YtemhhhikopemmaaPkW
import Derived.Defers
import Derived.Recover
namespace Go.Proofs.Ytemhhhikopemmaa
open Go.RowKit
attribute [local go_sem ↓] Go.wp_at_zero Go.wp_at_succ

/-- The Reader at block r. -/
structure RdR (w : World) (r : Nat) (A : Option Addr) (n cap : Nat) (rest : List Int) (live : Bool) : Prop where
  blk : Blk w r 111 #[.slice A n cap, .bool live]
  reads : Reads w 1 A n (bytes rest)
  le : n ≤ cap
  big : cap ≤ maxLen

/-- The Reader at r goes on, in the same bytes. -/
def Next (w' : World) (r : Nat) (A : Option Addr) (rest : List Int) : Prop := ∃ A' n cap, RdR w' r A' n cap rest true ∧ ∀ g, blockOf A' = some g → blockOf A = some g
theorem Next.up {w' : World} {r : Nat} {A A1 : Option Addr} {rest : List Int} (h : Next w' r A1 rest) (hA : ∀ g, blockOf A1 = some g → blockOf A = some g) : Next w' r A rest := by
  obtain ⟨A', n, cap, h1, h2⟩ := h
  exact ⟨A', n, cap, h1, fun g hg => hA g (h2 g hg)⟩
/-- .. where blocks are written that were not there when it began. -/
theorem Next.fresh {S : Nat → Prop} {w w1 w2 : World} {r : Nat} {A : Option Addr} {n cap : Nat} {rest0 rest : List Int} {live : Bool} (h0 : RdR w r A n cap rest0 live) (hn : 0 < n) (h : Next w1 r A rest) (hf : Fr S w1 w2) (hS : ∀ k, S k → w.heap.size ≤ k) : Next w2 r A rest := by
  obtain ⟨A', n', cap', h1, h2⟩ := h
  refine ⟨A', n', cap', ⟨h1.blk.fr hf (fun e => by have := hS _ e; have := h0.blk.lt; omega), h1.reads.fr hf (fun k hk e => ?_), h1.le, h1.big⟩, h2⟩
  obtain ⟨ad, rfl, hc⟩ := h0.reads.2 hn
  have hk2 := h2 k hk
  have hl : 0 < (bytes rest0).length := by rw [h0.reads.1]; omega
  have hcell := hc 0 _ (List.getElem?_eq_getElem hl)
  have hb : ad.block = k := Option.some.inj hk2
  have := hS k e
  unfold World.cell? at hcell
  rw [show (ad.add 0).block = k from by rw [add_block]; exact hb, Array.getElem?_eq_none (by omega)] at hcell
  cases hcell

/-- What a Reader panics with. -/
def stopV (c : Int) : Value := .iface 113 (.agg #[.int .i64 c])

theorem stop_eql (c : Int) (w : World) : (binOp .eql 20 (.iface 113 (.agg #[.int .i64 c])) .nilIface).run Try.prog w = .ok (.bool false) w := by kernel_rfl
theorem stop_is (c : Int) (w : World) : (Instr.typeAssert (.iface 113 (.agg #[.int .i64 c])) 20 113 true).run Try.prog w = .ok (.tuple #[.agg #[.int .i64 c], .bool true]) w := by kernel_rfl

set_option maxHeartbeats 800000 in
theorem Read1_idle (p q r : Nat) (w : World) (h0 : w.cell? ⟨p, 0, none⟩ = some (.pointer (some ⟨r, 0, none⟩))) (h1 : w.cell? ⟨r, 1, none⟩ = some (.bool true)) (h2 : w.frozen? ⟨r, 1, none⟩ = false) :
    CallsD Try.prog 60 #[.pointer (some ⟨p, 0, none⟩), .pointer (some ⟨q, 0, none⟩)] .returning w fun e u' w' =>
      e = .returned (.tuple #[]) ∧ u' = .returning ∧ w' = w.setCell ⟨r, 1, none⟩ (.bool false) := by
  refine callsD_of_wpS Try.func60 rfl fun c₀ cs hu => ?_
  apply wpS_seq
  apply wpS_region
  simp [wpOpsS, go_sem, hu, Try.ntmps60, Exit.thenS, h0, h1, h2, Array.replicate, List.replicate]
  apply wpS_seq
  apply wpS_region
  simp [wpOpsS, go_sem, recoverD, hu, Exit.thenS]
  refine wpS_of_wp ?_
  go_wp2
  cases c₀
  simp_all [bodyPostS, results, Try.results60]

set_option maxHeartbeats 800000 in
theorem Read1_stop (p q r : Nat) (c : Int) (x : Value) (older : List PanicEntry) (w : World) (h0 : w.cell? ⟨p, 0, none⟩ = some (.pointer (some ⟨r, 0, none⟩))) (h1 : w.cell? ⟨r, 1, none⟩ = some (.bool true)) (h2 : w.frozen? ⟨r, 1, none⟩ = false)
    (h3 : w.cell? ⟨q, 0, none⟩ = some x) (h4 : w.frozen? ⟨q, 0, none⟩ = false) (hqr : q ≠ r) (hq : q < w.heap.size) :
    CallsD Try.prog 60 #[.pointer (some ⟨p, 0, none⟩), .pointer (some ⟨q, 0, none⟩)] (.panicking ({ v := stopV c, recovered := false } :: older)) w fun e u' w' =>
      e = .returned (.tuple #[]) ∧ u' = .panicking ({ v := stopV c, recovered := true } :: older) ∧ w' = ((w.setCell ⟨r, 1, none⟩ (.bool false)).setCell ⟨q, 0, none⟩ (.int .i64 c)).alloc (.cells #[.int .i64 c] 113) := by
  refine callsD_of_wpS Try.func60 rfl fun c₀ cs hu => ?_
  unfold stopV at hu
  have g1 := stop_eql c
  have g2 := stop_is c
  apply wpS_seq
  apply wpS_region
  simp [wpOpsS, go_sem, hu, Try.ntmps60, Exit.thenS, h0, h1, h2, Array.replicate, List.replicate]
  apply wpS_seq
  apply wpS_region
  simp [wpOpsS, go_sem, recoverD, hu, Exit.thenS]
  refine wpS_of_wp ?_
  clear hu
  go_wp2_with fail
  exact ⟨rfl, _, rfl, .tuple #[], by simp [results, Try.results60], rfl, rfl, rfl⟩

theorem func_nil (f : Fn) (a b : Array Value) (w : World) : (binOp .eql 103 (.func f a b) .nilFunc).run Try.prog w = .ok (.bool false) w := by kernel_rfl

/-- What a reading closure that comes to its end leaves: the Reader at r with some rest; U: old blocks that it may turn; G: what else is known. -/
def Left (w1 : World) (r : Nat) (rest : List Int) (U : Nat → Prop) (G : World → Prop) (e : Ending) (w2 : World) : Prop :=
  e = .returned (.tuple #[]) ∧ (∃ A n cap, RdR w2 r A n cap rest true) ∧ Fr (fun k => k = r ∨ U k) w1 w2 ∧ G w2
/-- .. that is ended by an error. -/
def Died (w1 : World) (r : Nat) (c : Int) (U : Nat → Prop) (G : World → Prop) (e : Ending) (w2 : World) : Prop :=
  e = .panicked [{ v := stopV c, recovered := false }] ∧ (∃ s, Blk w2 r 111 #[s, .bool true]) ∧ Fr (fun k => k = r ∨ U k) w1 w2 ∧ G w2

/-- The blocks that Read makes for itself. -/
def Mine (w : World) : Nat → Prop := fun k => k = w.heap.size ∨ k = w.heap.size + 1

/-- What Read answers where what was asked came to its end. -/
def endCode (rest : List Int) : Int := if rest = [] then 0 else 27

theorem len_of_reads {w : World} {A : Option Addr} {n : Nat} {bs : List Int} (h : Reads w 1 A n (bytes bs)) : bs.length = n := by have := h.1; simpa [bytes] using this

set_option maxHeartbeats 800000 in
theorem Read_left4 {w : World} {A : Option Addr} {n cap : Nat} {bs rest : List Int} {f : Nat} {caps : Array Value} {U : Nat → Prop} {G : World → Prop} (hcall : ∀ args w, (callFunc f args).run Try.prog w = .ok (.enter f args) w)
    (hr : Reads w 1 A n (bytes bs)) (hle : n ≤ cap) (hbig : cap ≤ maxLen) (hU : ∀ k, U k → k < w.heap.size)
    (hbody : ∀ (w1 : World), Fr Nil w w1 → w1.heap.size = w.heap.size + 3 → RdR w1 (w.heap.size + 1) A n cap bs true → Calls Try.prog f (#[.pointer (some ⟨w.heap.size + 1, 0, none⟩)] ++ caps) w1 (Left w1 (w.heap.size + 1) rest U G))
    (hG : ∀ w2 w', Fr (Mine w) w2 w' → G w2 → G w') :
    Calls Try.prog 50 #[.slice A n cap, .func (.func f) #[] caps] w fun e w' => e = .returned (.int .i64 (endCode rest)) ∧ Fr U w w' ∧ G w' ∧ ∃ s, Blk w' (w.heap.size + 1) 111 #[s, .bool false] := by
  have hmf : ∀ (fn : Fn) (first cap : Array Value) (w : World), (Instr.makeFunc fn first cap).run Try.prog w = .ok (.func fn first cap) w := fun _ _ _ _ => rfl
  have hnf := func_nil (.func f) #[] caps
  go_enter_defers Try.func50, Try.ntmps50
  go_wp2_with fail
  have hF1 : Fr Nil w (((w.alloc (.cells #[.int .i64 0] 26)).alloc (.cells #[.slice A n cap, .bool true] 111)).alloc (.cells #[.pointer (some ⟨w.heap.size + 1, 0, none⟩)] 99)) := (((Fr.refl Nil w).alloc _).alloc _).alloc _
  have hB0 : Blk (((w.alloc (.cells #[.int .i64 0] 26)).alloc (.cells #[.slice A n cap, .bool true] 111)).alloc (.cells #[.pointer (some ⟨w.heap.size + 1, 0, none⟩)] 99)) w.heap.size 26 #[.int .i64 0] := ((Blk.new w _ _).alloc _).alloc _
  have hB1 : Blk (((w.alloc (.cells #[.int .i64 0] 26)).alloc (.cells #[.slice A n cap, .bool true] 111)).alloc (.cells #[.pointer (some ⟨w.heap.size + 1, 0, none⟩)] 99)) (w.heap.size + 1) 111 #[.slice A n cap, .bool true] := by
    have h := (Blk.new (w.alloc (.cells #[.int .i64 0] 26)) 111 #[.slice A n cap, .bool true]).alloc (.cells #[.pointer (some ⟨w.heap.size + 1, 0, none⟩)] 99)
    simpa using h
  have hB2 : Blk (((w.alloc (.cells #[.int .i64 0] 26)).alloc (.cells #[.slice A n cap, .bool true] 111)).alloc (.cells #[.pointer (some ⟨w.heap.size + 1, 0, none⟩)] 99)) (w.heap.size + 1 + 1) 99 #[.pointer (some ⟨w.heap.size + 1, 0, none⟩)] := by
    have h := Blk.new ((w.alloc (.cells #[.int .i64 0] 26)).alloc (.cells #[.slice A n cap, .bool true] 111)) 99 #[.pointer (some ⟨w.heap.size + 1, 0, none⟩)]
    simpa using h
  have hz : (((w.alloc (.cells #[.int .i64 0] 26)).alloc (.cells #[.slice A n cap, .bool true] 111)).alloc (.cells #[.pointer (some ⟨w.heap.size + 1, 0, none⟩)] 99)).heap.size = w.heap.size + 3 := by simp
  have hb := hbody _ hF1 hz ⟨hB1, hr.fr hF1 (fun _ _ e => e), hle, hbig⟩
  rw [show #[Value.pointer (some ⟨w.heap.size + 1, 0, none⟩)] ++ caps = (#[] : Array Value).push (Value.pointer (some ⟨w.heap.size + 1, 0, none⟩)) ++ caps from rfl] at hb
  generalize ((w.alloc (.cells #[.int .i64 0] 26)).alloc (.cells #[.slice A n cap, .bool true] 111)).alloc (.cells #[.pointer (some ⟨w.heap.size + 1, 0, none⟩)] 99) = w1 at *
  refine hb.mono ?_
  rintro e w2 ⟨rfl, ⟨A2, n2, c2, hR2⟩, hF2, hG2⟩
  have hC0 := hB0.fr hF2 (by rintro (h | h); omega; have := hU _ h; omega)
  have hC2 := hB2.fr hF2 (by rintro (h | h); omega; have := hU _ h; omega)
  have c0 := hC2.cell 0
  have c1 := hR2.blk.cell 0
  have c3 := hR2.blk.cell 1
  have c4 := hR2.blk.frozen 1
  have c5 := hC0.cell 0
  have c6 := hC0.frozen 0
  simp at c0 c1 c3 c5
  have hln := len_of_reads hR2.reads
  have hkept : ∀ x : Int, Blk ((w2.setCell ⟨w.heap.size, 0, none⟩ (.int .i64 x)).setCell ⟨w.heap.size + 1, 1, none⟩ (.bool false)) (w.heap.size + 1) 111 #[.slice A2 n2 c2, .bool false] := fun x => by
    have h := ((hR2.blk.far (p := ⟨w.heap.size, 0, none⟩) (by simp) (.int .i64 x)).set_ 1 (.bool false))
    simpa using h
  by_cases hrest : rest = []
  · have hn2 : n2 = 0 := by rw [← hln, hrest]; rfl
    subst hn2
    clear hln
    go_wp2
    refine leaves_cons (f := 60) (args := #[.pointer (some ⟨w.heap.size + 1 + 1, 0, none⟩), .pointer (some ⟨w.heap.size, 0, none⟩)]) (by simp) (by simp [go_sem]) ?_
    refine (Read1_idle (w.heap.size + 1 + 1) w.heap.size (w.heap.size + 1) _ (by simp [go_sem, c0]) (by simp [go_sem, c3]) (by simp [go_sem, c4])).mono ?_
    rintro e u' w'' ⟨rfl, rfl, rfl⟩
    refine ⟨.int .i64 0, by simp [results, Try.results50, go_sem, c5], ?_, ?_, ?_, _, hkept 0⟩
    · simp [endCode, hrest]
    · refine (hF1.mono (fun _ _ e => False.elim e)).trans (T := fun k => k = w.heap.size + 1 ∨ U k ∨ k = w.heap.size) (((hF2.mono (by rintro k _ (h | h); exact .inl h; exact .inr (.inl h))).setCell (.inr (.inr (.inr rfl))) _).setCell (.inr (.inl rfl)) _) ?_
      rintro k hk (h | h | h)
      · omega
      · exact h
      · omega
    · exact hG _ _ (((Fr.refl (Mine w) w2).setCell (.inr (.inl rfl)) _).setCell (.inr (.inr rfl)) _) hG2
  · have hn2 : (0 : Int) < (n2 : Int) := by
      have : 0 < rest.length := List.length_pos_iff.2 hrest
      omega
    clear hln
    go_wp2
    refine leaves_cons (f := 60) (args := #[.pointer (some ⟨w.heap.size + 1 + 1, 0, none⟩), .pointer (some ⟨w.heap.size, 0, none⟩)]) (by simp) (by simp [go_sem]) ?_
    refine (Read1_idle (w.heap.size + 1 + 1) w.heap.size (w.heap.size + 1) _ (by simp [go_sem, c0]) (by simp [go_sem, c3]) (by simp [go_sem, c4])).mono ?_
    rintro e u' w'' ⟨rfl, rfl, rfl⟩
    refine ⟨.int .i64 27, by simp [results, Try.results50, go_sem, c5], ?_, ?_, ?_, _, hkept 27⟩
    · simp [endCode, hrest]
    · refine (hF1.mono (fun _ _ e => False.elim e)).trans (T := fun k => k = w.heap.size + 1 ∨ U k ∨ k = w.heap.size) (((hF2.mono (by rintro k _ (h | h); exact .inl h; exact .inr (.inl h))).setCell (.inr (.inr (.inr rfl))) _).setCell (.inr (.inl rfl)) _) ?_
      rintro k hk (h | h | h)
      · omega
      · exact h
      · omega
    · exact hG _ _ (((Fr.refl (Mine w) w2).setCell (.inr (.inl rfl)) _).setCell (.inr (.inr rfl)) _) hG2

theorem Read_left {w : World} {A : Option Addr} {n cap : Nat} {bs rest : List Int} {f : Nat} {caps : Array Value} {U : Nat → Prop} {G : World → Prop} (hcall : ∀ args w, (callFunc f args).run Try.prog w = .ok (.enter f args) w)
    (hr : Reads w 1 A n (bytes bs)) (hle : n ≤ cap) (hbig : cap ≤ maxLen) (hU : ∀ k, U k → k < w.heap.size)
    (hbody : ∀ (w1 : World), Fr Nil w w1 → w1.heap.size = w.heap.size + 3 → RdR w1 (w.heap.size + 1) A n cap bs true → Calls Try.prog f (#[.pointer (some ⟨w.heap.size + 1, 0, none⟩)] ++ caps) w1 (Left w1 (w.heap.size + 1) rest U G))
    (hG : ∀ w2 w', Fr (Mine w) w2 w' → G w2 → G w') :
    Calls Try.prog 50 #[.slice A n cap, .func (.func f) #[] caps] w fun e w' => e = .returned (.int .i64 (endCode rest)) ∧ Fr U w w' ∧ G w' := (Read_left4 hcall hr hle hbig hU hbody hG).mono fun e w' h => ⟨h.1, h.2.1, h.2.2.1⟩

set_option maxHeartbeats 800000 in
theorem Read_died {w : World} {A : Option Addr} {n cap : Nat} {bs : List Int} {c : Int} {f : Nat} {caps : Array Value} {U : Nat → Prop} {G : World → Prop} (hcall : ∀ args w, (callFunc f args).run Try.prog w = .ok (.enter f args) w)
    (hr : Reads w 1 A n (bytes bs)) (hle : n ≤ cap) (hbig : cap ≤ maxLen) (hU : ∀ k, U k → k < w.heap.size)
    (hbody : ∀ (w1 : World), Fr Nil w w1 → w1.heap.size = w.heap.size + 3 → RdR w1 (w.heap.size + 1) A n cap bs true → Calls Try.prog f (#[.pointer (some ⟨w.heap.size + 1, 0, none⟩)] ++ caps) w1 (Died w1 (w.heap.size + 1) c U G))
    (hG : ∀ w2 w', Fr (Mine w) w2 w' → G w2 → G w') :
    Calls Try.prog 50 #[.slice A n cap, .func (.func f) #[] caps] w fun e w' => e = .returned (.int .i64 (c)) ∧ Fr U w w' ∧ G w' := by
  have hmf : ∀ (fn : Fn) (first cap : Array Value) (w : World), (Instr.makeFunc fn first cap).run Try.prog w = .ok (.func fn first cap) w := fun _ _ _ _ => rfl
  have hnf := func_nil (.func f) #[] caps
  go_enter_defers Try.func50, Try.ntmps50
  go_wp2_with fail
  have hF1 : Fr Nil w (((w.alloc (.cells #[.int .i64 0] 26)).alloc (.cells #[.slice A n cap, .bool true] 111)).alloc (.cells #[.pointer (some ⟨w.heap.size + 1, 0, none⟩)] 99)) := (((Fr.refl Nil w).alloc _).alloc _).alloc _
  have hB0 : Blk (((w.alloc (.cells #[.int .i64 0] 26)).alloc (.cells #[.slice A n cap, .bool true] 111)).alloc (.cells #[.pointer (some ⟨w.heap.size + 1, 0, none⟩)] 99)) w.heap.size 26 #[.int .i64 0] := ((Blk.new w _ _).alloc _).alloc _
  have hB1 : Blk (((w.alloc (.cells #[.int .i64 0] 26)).alloc (.cells #[.slice A n cap, .bool true] 111)).alloc (.cells #[.pointer (some ⟨w.heap.size + 1, 0, none⟩)] 99)) (w.heap.size + 1) 111 #[.slice A n cap, .bool true] := by
    have h := (Blk.new (w.alloc (.cells #[.int .i64 0] 26)) 111 #[.slice A n cap, .bool true]).alloc (.cells #[.pointer (some ⟨w.heap.size + 1, 0, none⟩)] 99)
    simpa using h
  have hB2 : Blk (((w.alloc (.cells #[.int .i64 0] 26)).alloc (.cells #[.slice A n cap, .bool true] 111)).alloc (.cells #[.pointer (some ⟨w.heap.size + 1, 0, none⟩)] 99)) (w.heap.size + 1 + 1) 99 #[.pointer (some ⟨w.heap.size + 1, 0, none⟩)] := by
    have h := Blk.new ((w.alloc (.cells #[.int .i64 0] 26)).alloc (.cells #[.slice A n cap, .bool true] 111)) 99 #[.pointer (some ⟨w.heap.size + 1, 0, none⟩)]
    simpa using h
  have hz : (((w.alloc (.cells #[.int .i64 0] 26)).alloc (.cells #[.slice A n cap, .bool true] 111)).alloc (.cells #[.pointer (some ⟨w.heap.size + 1, 0, none⟩)] 99)).heap.size = w.heap.size + 3 := by simp
  have hb := hbody _ hF1 hz ⟨hB1, hr.fr hF1 (fun _ _ e => e), hle, hbig⟩
  rw [show #[Value.pointer (some ⟨w.heap.size + 1, 0, none⟩)] ++ caps = (#[] : Array Value).push (Value.pointer (some ⟨w.heap.size + 1, 0, none⟩)) ++ caps from rfl] at hb
  generalize ((w.alloc (.cells #[.int .i64 0] 26)).alloc (.cells #[.slice A n cap, .bool true] 111)).alloc (.cells #[.pointer (some ⟨w.heap.size + 1, 0, none⟩)] 99) = w1 at *
  refine hb.mono ?_
  rintro e w2 ⟨rfl, ⟨s, hR2⟩, hF2, hG2⟩
  have hC0 := hB0.fr hF2 (by rintro (h | h); omega; have := hU _ h; omega)
  have hC2 := hB2.fr hF2 (by rintro (h | h); omega; have := hU _ h; omega)
  have c0 := hC2.cell 0
  have c3 := hR2.cell 1
  have c4 := hR2.frozen 1
  have c5 := hC0.cell 0
  have c6 := hC0.frozen 0
  have hlt := hC0.lt
  simp at c0 c3 c5
  show bodyPostD _ _ _ _ _ _
  refine leaves_cons (f := 60) (args := #[.pointer (some ⟨w.heap.size + 1 + 1, 0, none⟩), .pointer (some ⟨w.heap.size, 0, none⟩)]) (by simp) (by simp [go_sem]) ?_
  refine (Read1_stop (w.heap.size + 1 + 1) w.heap.size (w.heap.size + 1) c _ [] _ c0 c3 c4 c5 c6 (by omega) hlt).mono ?_
  rintro e u' w'' ⟨rfl, rfl, rfl⟩
  have hfin := (((hC0.far (p := ⟨w.heap.size + 1, 1, none⟩) (by simp) (.bool false)).set_ 0 (.int .i64 c)).alloc (.cells #[.int .i64 c] 113)).cell 0
  simp at hfin
  refine ⟨.int .i64 c, by simp [results, Try.results50, go_sem, hfin], ?_, ?_, ?_⟩
  · rfl
  · refine (hF1.mono (fun _ _ e => False.elim e)).trans (T := fun k => k = w.heap.size + 1 ∨ U k ∨ k = w.heap.size) ((((hF2.mono (by rintro k _ (h | h); exact .inl h; exact .inr (.inl h))).setCell (.inr (.inl rfl)) _).setCell (.inr (.inr (.inr rfl))) _).alloc _) ?_
    rintro k hk (h | h | h)
    · omega
    · exact h
    · omega
  · exact hG _ _ ((((Fr.refl (Mine w) w2).setCell (.inr (.inr rfl)) _).setCell (.inr (.inl rfl)) _).alloc _) hG2

end Go.Proofs.Ytemhhhikopemmaa
