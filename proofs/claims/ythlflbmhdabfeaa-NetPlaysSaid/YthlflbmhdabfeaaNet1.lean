import Derived.Test.YthlflbmhdabfeaaRows
import Derived.Test.YthlflbmhdabfeaaMem
import Derived.Deep.RegionHeld3
import Derived.Deep.DrawnRows
import Derived.Deep.RegionLaw
import Derived.BigRegion
namespace Go.Proofs.Ythlflbmhdabfeaa
open Go.RowKit
attribute [local go_sem ↓] Go.wp_at_zero Go.wp_at_succ

def vld (a : Int) : Bool := decide (0 ≤ a ∧ a < 67)

set_option maxHeartbeats 400000 in
theorem valid_any (a : Int) (w : World) :
    Calls Try.prog 16 #[.int .i64 a] w fun e w' => e = .returned (.bool (vld a)) ∧ w = w' := by
  go_enter Try.func16, Try.ntmps16
  go_wp2
  all_goals go_ret
  all_goals refine ⟨ret_bool ?_, rfl⟩
  · have : 0 ≤ a := by assumption
    simp [vld, this]
  · have : a < 0 := by assumption
    simp [vld]; omega

def bad (f t : Int) : Bool := !vld f || !vld t || f == t || (decide (3 ≤ f) && t == 2) || (decide (3 ≤ t) && f == 2) || (decide (3 ≤ f) && decide (3 ≤ t))

theorem Try.infoLetter : (Try.prog.info? 29).map (fun i => (i.zero, i.size, i.bytes)) = some (some (.agg #[.int .i64 0, .int .i64 0, .slice none 0 0]), 3, 40) := by kernel_rfl

/-- A letter as it lies in the queue; bs: its bytes. -/
structure Lt where
  f : Int
  t : Int
  A : Option Addr
  m : Nat
  cap : Nat
  bs : List Int
def Lt.cells (x : Lt) : List Value := [.int .i64 x.f, .int .i64 x.t, .slice x.A x.m x.cap]
def flat (ls : List Lt) : List Value := ls.flatMap Lt.cells

theorem one_flat (ls : List Lt) : ∀ u ∈ flat ls, u.oneCell' = true := by
  intro u hu
  obtain ⟨x, _, h⟩ := List.mem_flatMap.1 hu
  simp [Lt.cells] at h
  rcases h with rfl | rfl | rfl <;> rfl
theorem flat_snoc (ls : List Lt) (x : Lt) : flat (ls ++ [x]) = flat ls ++ [.int .i64 x.f, .int .i64 x.t, .slice x.A x.m x.cap] := by simp [flat, Lt.cells]
theorem flat_len (ls : List Lt) : (flat ls).length = ls.length * 3 := by
  induction ls with
  | nil => rfl
  | cons x r ih => rw [show flat (x :: r) = x.cells ++ flat r from rfl, List.length_append, ih]; simp [Lt.cells]; omega
theorem flat_app (a b : List Lt) : flat (a ++ b) = flat a ++ flat b := by simp [flat]
theorem flat_take (ls : List Lt) (k : Nat) : (flat ls).take (k * 3) = flat (ls.take k) := by
  induction ls generalizing k with
  | nil => simp [flat]
  | cons x r ih =>
    cases k with
    | zero => simp [flat]
    | succ k =>
      rw [show flat (x :: r) = x.cells ++ flat r from rfl, List.take_succ_cons, show flat (x :: r.take k) = x.cells ++ flat (r.take k) from rfl, ← ih k, show (k + 1) * 3 = x.cells.length + k * 3 from by simp [Lt.cells]; omega]
      exact List.take_length_add_append ..
theorem flat_drop (ls : List Lt) (k : Nat) : (flat ls).drop (k * 3) = flat (ls.drop k) := by
  induction ls generalizing k with
  | nil => simp [flat]
  | cons x r ih =>
    cases k with
    | zero => simp [flat]
    | succ k =>
      rw [show flat (x :: r) = x.cells ++ flat r from rfl, List.drop_succ_cons, ← ih k, show (k + 1) * 3 = x.cells.length + k * 3 from by simp [Lt.cells]; omega]
      exact List.drop_length_add_append ..
theorem flat_get (ls : List Lt) (i : Nat) (x : Lt) (h : ls[i]? = some x) : (flat ls)[i * 3]? = some (.int .i64 x.f) ∧ (flat ls)[i * 3 + 1]? = some (.int .i64 x.t) ∧ (flat ls)[i * 3 + 2]? = some (.slice x.A x.m x.cap) := by
  have hd := flat_drop ls i
  have hc : ls.drop i = x :: ls.drop (i + 1) := by
    have hi : i < ls.length := (List.getElem?_eq_some_iff.1 h).1
    rw [List.drop_eq_getElem_cons hi]
    have := (List.getElem?_eq_some_iff.1 h).2
    rw [this]
  rw [hc] at hd
  have h0 : ∀ j, (flat ls)[i * 3 + j]? = (x.cells ++ flat (ls.drop (i + 1)))[j]? := by
    intro j
    rw [← List.getElem?_drop, hd]
    rfl
  exact ⟨by have := h0 0; simpa [Lt.cells] using this, by have := h0 1; simpa [Lt.cells] using this, by have := h0 2; simpa [Lt.cells] using this⟩

/-- The net struct at block b: its queue is the value v, which holds the letters ls. -/
structure NetR (w : World) (b : Nat) (v : Value) (ls : List Lt) (s c l : Int) : Prop where
  blk : Blk w b 46 #[v, .int .i64 s, .int .i64 c, .int .i64 l]
  own : w.ownsRow 0 29 3 v ls.length (flat ls)
  lets : ∀ x ∈ ls, Reads w 1 x.A x.m (bytes x.bs) ∧ ∀ g, blockOf x.A = some g → g < w.heap.size ∧ g ≠ b ∧ v.ownBlock ≠ some g

theorem NetR.fr {S : Nat → Prop} {w w' : World} {b : Nat} {v : Value} {ls : List Lt} {s c l : Int} (h : NetR w b v ls s c l) (hf : Fr S w w') (hb : ¬ S b) (hv : ∀ k, v.ownBlock = some k → ¬ S k)
    (hl : ∀ x ∈ ls, ∀ g, blockOf x.A = some g → ¬ S g) : NetR w' b v ls s c l :=
  ⟨h.blk.fr hf hb, own_fr h.own hf hv, fun x hx => ⟨(h.lets x hx).1.fr hf (hl x hx), fun g hg => ⟨Nat.lt_of_lt_of_le ((h.lets x hx).2 g hg).1 hf.size, ((h.lets x hx).2 g hg).2⟩⟩⟩
theorem NetR.nil {w w' : World} {b : Nat} {v : Value} {ls : List Lt} {s c l : Int} (h : NetR w b v ls s c l) (hf : Fr Nil w w') : NetR w' b v ls s c l :=
  h.fr hf (fun e => e) (fun _ _ e => e) (fun _ _ _ _ e => e)

/-- What a Send that goes well leaves. -/
structure Sent (w : World) (b : Nat) (v : Value) (ls : List Lt) (s c l f t : Int) (m : Nat) (bs : List Int) (e : Ending) (w' : World) : Prop where
  ok : e = .returned (.int .i64 0)
  fr : Fr (NetS b v) w w'
  rep : ∃ v' A cap, NetR w' b v' (ls ++ [⟨f, t, A, m, cap, bs⟩]) (s + 1) c l ∧ Moved w v v' ∧ ∀ g, blockOf A = some g → w.heap.size ≤ g

/-- A letter more behind all, in the net at block b whose queue has just been appended to. -/
theorem net_push {w W2 W3 w2 : World} {b : Nat} {V : Option Addr} {cv : Nat} {ls : List Lt} {s c l f t : Int} {m : Nat} {bs : List Int} {V1 V2 : Option Addr} {cp1 cp2 : Nat}
    (hN : NetR w b (.slice V ls.length cv) ls s c l) (hF : Fr Nil w W2) (hF3 : Fr Nil W2 W3) (hR2 : W2.ownsRow 0 5 1 (.slice V1 m cp1) m (bytes bs)) (hNo : ∀ k, (Value.slice V1 m cp1).ownBlock = some k → w.heap.size ≤ k)
    (hown2 : w2.ownsRow 0 29 3 (.slice V2 (ls.length + 1) cp2) (ls.length + 1) (flat ls ++ [.int .i64 f, .int .i64 t, .slice V1 m cp1])) (hg2 : W3.grownBy w2 (Value.slice V ls.length cv).ownBlock)
    (hat2 : (Value.slice V2 (ls.length + 1) cp2).ownBlock = (Value.slice V ls.length cv).ownBlock ∨ (Value.slice V2 (ls.length + 1) cp2).ownBlock = some W3.heap.size) :
    Fr (NetS b (.slice V ls.length cv)) w (w2.setCell ⟨b, 0, none⟩ (.slice V2 (ls.length + 1) cp2)) ∧
    NetR (w2.setCell ⟨b, 0, none⟩ (.slice V2 (ls.length + 1) cp2)) b (.slice V2 (ls.length + 1) cp2) (ls ++ [⟨f, t, V1, m, cp1, bs⟩]) s c l ∧ Moved w (.slice V ls.length cv) (.slice V2 (ls.length + 1) cp2) := by
  have hVb : (Value.slice V ls.length cv).ownBlock ≠ some b := own_ne hN.own hN.blk (by decide)
  have hb := hN.blk.lt
  have hs1 := hF.size
  have hs3 := hF3.size
  have hF13 : Fr Nil w W3 := hF.trans hF3 (fun _ _ e => e)
  have hB : Blk w2 b 46 #[.slice V ls.length cv, .int .i64 s, .int .i64 c, .int .i64 l] := (hN.blk.fr hF13 (fun e => e)).grown hg2 hVb
  have hV2b : (Value.slice V2 (ls.length + 1) cp2).ownBlock ≠ some b := own_ne hown2 hB (by decide)
  have hfar : ∀ (u : Value), Fr (fun k => k = b) w2 (w2.setCell ⟨b, 0, none⟩ u) := fun u => (Fr.refl (fun k => k = b) w2).setCell (.inr rfl) _
  have hR3 := own_fr hR2 hF3 (fun _ _ e => e)
  have hgF : Fr (fun k => (Value.slice V ls.length cv).ownBlock = some k) W3 w2 := (Fr.refl _ _).grown hg2 (fun k hk _ => hk)
  have hR4 : w2.ownsRow 0 5 1 (.slice V1 m cp1) m (bytes bs) := by
    refine own_fr hR3 hgF ?_
    intro k hk hVk
    have h1 := hNo k hk
    have h2 := own_lt hN.own hVk
    omega
  have hall : Fr (NetS b (.slice V ls.length cv)) w (w2.setCell ⟨b, 0, none⟩ (.slice V2 (ls.length + 1) cp2)) :=
    ((hF13.mono (fun k _ e => False.elim e)).grown hg2 (fun k hk _ => .inr hk)).setCell (.inr (.inl rfl)) _
  have hmv : ∀ g, (Value.slice V2 (ls.length + 1) cp2).ownBlock = some g → (Value.slice V ls.length cv).ownBlock = some g ∨ w.heap.size ≤ g := by
    intro g hg
    rcases hat2 with h | h
    · exact .inl (by rw [← h]; exact hg)
    · rw [h] at hg
      have : W3.heap.size = g := by simpa using hg
      exact .inr (by omega)
  refine ⟨hall, ⟨?_, ?_, ?_⟩, ?_⟩
  · have h := hB.set_ 0 (.slice V2 (ls.length + 1) cp2)
    simpa using h
  · rw [flat_snoc]
    simpa using own_fr hown2 (hfar _) (fun k hk e => hV2b (by rw [hk, e]))
  · intro x hx
    rcases List.mem_append.1 hx with h | h
    · obtain ⟨h1, h2⟩ := hN.lets x h
      refine ⟨h1.fr hall ?_, fun g hg => ?_⟩
      · rintro k hk (rfl | e)
        · exact (h2 _ hk).2.1 rfl
        · exact (h2 _ hk).2.2 e
      · obtain ⟨g1, g2, g3⟩ := h2 g hg
        refine ⟨Nat.lt_of_lt_of_le g1 hall.size, g2, fun e => ?_⟩
        rcases hmv g e with e | e
        · exact g3 e
        · omega
    · simp at h
      subst h
      refine ⟨Reads.of_own (own_fr hR4 (hfar _) (fun k hk e => by have := hNo k hk; omega)), fun g hg => ?_⟩
      cases V1 with
      | none => cases hg
      | some ad =>
        have hg' : (Value.slice (some ad) m cp1).ownBlock = some g := hg
        have hlt := own_lt hR4 hg'
        refine ⟨by simpa [World.setCell] using hlt, fun e => by have := hNo g hg'; omega, fun h2 => ?_⟩
        obtain ⟨_, _, _, hbk, _⟩ := own_blk hR4 hg'
        exact own_ne hown2 hbk (by decide) h2
  · exact hmv

/-- The queue of the net at block b is replaced by a new one, of some of its letters. -/
theorem net_cut {w w3 W' : World} {b : Nat} {v v3 : Value} {ls ls' : List Lt} {s c l : Int} (hN : NetR w b v ls s c l) (hF : Fr Nil w w3) (hsub : ∀ y ∈ ls', y ∈ ls)
    (hown : w3.ownsRow 0 29 3 v3 ls'.length (flat ls')) (hv3 : ∀ k, v3.ownBlock = some k → w.heap.size < k) (hF' : Fr (fun k => k = b ∨ k = w.heap.size) w3 W')
    (hB : Blk W' b 46 #[v3, .int .i64 s, .int .i64 c, .int .i64 l]) : Fr (NetS b v) w W' ∧ NetR W' b v3 ls' s c l ∧ Moved w v v3 := by
  have hb := hN.blk.lt
  have hall : Fr (NetS b v) w W' := hF.mono (fun _ _ e => False.elim e) |>.trans hF' (by
    rintro k hk (rfl | rfl)
    · exact .inl rfl
    · omega)
  refine ⟨hall, ⟨hB, own_fr hown hF' (fun k hk e => ?_), fun x hx => ?_⟩, ?_⟩
  · have := hv3 k hk
    omega
  · obtain ⟨h1, h2⟩ := hN.lets x (hsub x hx)
    refine ⟨(h1.fr hF (fun _ _ e => e)).fr hF' (fun k hk e => ?_), fun g hg => ⟨Nat.lt_of_lt_of_le (h2 g hg).1 hall.size, (h2 g hg).2.1, fun e => ?_⟩⟩
    · have := h2 k hk
      omega
    · have := hv3 g e
      have := (h2 g hg).1
      omega
  · exact fun g hg => .inr (Nat.le_of_lt (hv3 g hg))

/-- A counter's cell is written. -/
theorem NetR.count {w : World} {b : Nat} {v : Value} {ls : List Lt} {s c l s' c' l' : Int} (h : NetR w b v ls s c l) (i : Nat) (u : Value)
    (hi : (#[v, .int .i64 s, .int .i64 c, .int .i64 l] : Array Value).setIfInBounds i u = #[v, .int .i64 s', .int .i64 c', .int .i64 l']) : NetR (w.setCell ⟨b, i, none⟩ u) b v ls s' c' l' := by
  have hF : Fr (fun k => k = b) w (w.setCell ⟨b, i, none⟩ u) := (Fr.refl (fun k => k = b) w).setCell (.inr rfl) _
  refine ⟨by have h1 := h.blk.set_ i u; rw [hi] at h1; exact h1, own_fr h.own hF (fun k hk e => own_ne h.own h.blk (by decide) (by rw [hk, e])), fun x hx => ⟨(h.lets x hx).1.fr hF (fun g hg e => ((h.lets x hx).2 g hg).2.1 e), fun g hg => ?_⟩⟩
  obtain ⟨g1, g2⟩ := (h.lets x hx).2 g hg
  exact ⟨by simpa [World.setCell] using g1, g2⟩

end Go.Proofs.Ythlflbmhdabfeaa
