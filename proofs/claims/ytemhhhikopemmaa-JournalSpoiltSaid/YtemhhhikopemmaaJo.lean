/- Lists of bytes as they come in; records read back from what Scan answers. -/
import Derived.Test.YtemhhhikopemmaaJn
import Derived.Test.YtemhhhikopemmaaOp
namespace Go.Proofs.Ytemhhhikopemmaa
open Go.RowKit Go.ChangeShapes Go.WideShapes Go.Deep
/-- Bytes that came in, to be read. -/
def Bx.ok (w : World) (b : Bx) : Prop := Reads w 1 b.A b.l.length (bytes b.l) ∧ IsBytes b.l ∧ b.l.length ≤ b.c ∧ b.c ≤ maxLen
instance : Inhabited Bx := ⟨⟨none, 0, []⟩⟩
/-- A list of bytes that came in. -/
structure LsW (w : World) (R : Option Addr) (xs : List Bx) : Prop where
  vw : Reads w 1 R xs.length (xs.map Bx.v)
  el : ∀ x ∈ xs, x.ok w
section
variable {H : Type} {enc : TypeId × Value → H} {w : World} {base : Nat} {spare : Nat → Bool} {held : Bool} {fuel : Nat} {cs : List Value} {x : DataW H × List MemPlace}
theorem open_bx (h : DataW.trod enc Try.prog w base spare held fuel 23 cs = some x) : ∃ b : Bx, cs = [b.v] ∧ b.ok w := by
  obtain ⟨v, bs, rfl, A, n, c, rfl, hr, hb, hc, hm⟩ := open_bytes Try.underlying23 Try.underlying5 (by kernel_rfl) h
  have hl : bs.length = n := by have := hr.1; simpa [bytes] using this
  subst hl
  exact ⟨⟨A, c, bs⟩, rfl, hr, hb, hc, hm⟩
def BxV (w : World) (v : Value) : Prop := ∃ b : Bx, v = b.v ∧ b.ok w
theorem open_bxV {v : Value} (h : DataW.trod enc Try.prog w base spare held fuel 23 v.cells.toList = some x) (hv : ∃ A n c, v = .slice A n c) : BxV w v := by
  obtain ⟨A, n, c, rfl⟩ := hv
  obtain ⟨b, h1, h2⟩ := open_bx h
  exact ⟨b, by simpa [Value.cells] using h1, h2⟩
def LsVV (w : World) (v : Value) : Prop := ∃ (R : Option Addr) (c : Nat) (xs : List Bx), v = .slice R xs.length c ∧ LsW w R xs ∧ xs.length ≤ maxLen
theorem flat_one {X : Type} (f : X → Value) (l : List X) : (l.flatMap fun n => [f n]) = l.map f := by
  induction l with
  | nil => rfl
  | cons a r ih =>
    rw [List.flatMap_cons, ih]
    rfl
theorem open_lsV {v : Value} (h : DataW.trod enc Try.prog w base spare held fuel 22 v.cells.toList = some x) (hv : ∃ A n c, v = .slice A n c) : LsVV w v := by
  obtain ⟨A0, n0, c0, rfl⟩ := hv
  obtain ⟨A, n, c, xs, hcs, hl, hr, hk, hc, hm⟩ := open_rows (X := Bx) 1 (fun b => [b.v]) (fun b => b.ok w) Try.underlying22 (by kernel_rfl) (fun _ _ _ h => open_bx h) h
  rw [flat_one] at hr
  subst hl
  have hcs' : Value.slice A0 n0 c0 = .slice A xs.length c := by simpa [Value.cells] using hcs
  exact ⟨A, c, xs, hcs', ⟨hr, fun x hx => (hk x hx).1⟩, by omega⟩
end
theorem Bx.ok.rd {w : World} {b : Bx} (h : b.ok w) (hl : b.l.length ≤ 70368744177664) : Rd [old w] b.A b.l.length b.c b.l := ⟨Vw.of_old .here h.1, h.2.2.1, hl, h.2.2.2, rfl, h.2.1⟩
theorem LsW.to {w : World} {R : Option Addr} {xs : List Bx} (h : LsW w R xs) (hl : ∀ x ∈ xs, x.l.length ≤ 70368744177664) : LsV [old w] R xs := ⟨Vw.of_old .here h.vw, fun x hx => (h.el x hx).rd (hl x hx)⟩
def Sx.bx (s : Sx) : Bx := ⟨s.A, s.c, s.l⟩
theorem star_at {w : World} {f : Fa} {G L : List Fa} (hw : Sep w L) (hs : At (star G) L) (hf : f ∈ G) : f.P w := by
  have h1 := hw.at hs
  unfold star at h1
  exact h1.mem hf
/-- What Scan answers, to be read. -/
theorem SRow.ls {K : List Fa} {q : SRow} (hr : At q.row K) (hs : At q.st K) (hok : ∀ x ∈ q.xs, x.ok) : LsV K q.R (q.xs.map Sx.bx) := by
  refine ⟨fun w hw => ?_, fun x hx => ?_⟩
  · have h1 := Vw.of_own hr w hw
    have h2 : (q.xs.map Sx.bx).map Bx.v = sxV q.xs := by simp [sxV, Sx.bx, Bx.v, Sx.v]
    rw [h2, List.length_map]
    exact h1
  · obtain ⟨s, hs', rfl⟩ := List.mem_map.1 hx
    obtain ⟨⟨o1, o2⟩, o3, o4⟩ := hok s hs'
    refine ⟨fun w hw => ?_, o1, by show s.l.length ≤ _; omega, o2, rfl, o4⟩
    have h1 : (own 5 1 s.A s.l.length s.d (bytes s.l)).P w := star_at hw hs (List.mem_map.2 ⟨s, hs', rfl⟩)
    unfold own at h1
    exact Reads.of_own h1
theorem SRow.ls_l {q : SRow} : (q.xs.map Sx.bx).map Bx.l = q.xs.map Sx.l := by simp [Sx.bx]
end Go.Proofs.Ytemhhhikopemmaa
