/- pack.Read over facts. -/
import Derived.Test.YtemhhhikopemmaaPr
import Derived.Test.YtemhhhikopemmaaPkR
namespace Go.Proofs.Ytemhhhikopemmaa
open Go.RowKit
/-- All but T as it was at w1. -/
def since (w1 : World) (T : Nat → Prop) : Fa := ⟨fun w => Fr T w1 w, fun k => k < w1.heap.size ∧ ¬ T k, fun h e => by have := h.size; omega, fun h hF hn => h.trans hF (fun k hk e => Classical.byContradiction fun ht => hn k ⟨hk, ht⟩ e)⟩
attribute [local semireducible] Sep in
theorem Sep.cons {w : World} {f : Fa} {L : List Fa} (h1 : f.P w) (h2 : ∀ g ∈ L, ∀ k, f.F k → ¬ g.F k) (h3 : Sep w L) : Sep w (f :: L) := ⟨h1, h2, h3⟩
theorem blk_F {g : Nat} {t : TypeId} {cs : List Value} {k : Nat} : (blk g t cs).F k ↔ k = g := by
  unfold blk
  exact Iff.rfl
theorem blk_P {g : Nat} {t : TypeId} {cs : List Value} {w : World} : (blk g t cs).P w ↔ Blk w g t cs.toArray := by
  unfold blk
  exact Iff.rfl
theorem read_facts {K : List Fa} {w w1 : World} {A : Option Addr} {n c : Nat} {bs : List Int} (hw : Sep w K) (hF : Fr Nil w w1) (hsz : w1.heap.size = w.heap.size + 3) (hR : RdR w1 (w.heap.size + 1) A n c bs true) :
    Sep w1 (rdb (w.heap.size + 1) A n c :: since w1 (fun k => k = w.heap.size + 1 ∨ foot K k) :: K) := by
  refine Sep.cons (blk_P.2 (by simpa using hR.blk)) (fun g hg k hk => ?_) (Sep.cons (Fr.refl _ _) (fun g hg k hk hk' => hk.2 (.inr ⟨g, hg, hk'⟩)) (hw.nil hF))
  rw [blk_F.1 hk]
  rcases List.mem_cons.1 hg with e | e
  · subst e
    exact fun h => h.2 (.inl rfl)
  · intro h
    have := hw.foot_lt _ ⟨g, e, h⟩
    omega
theorem read_mine {H K : List Fa} {w w1 w2 : World} {x : Fa} (hw : Sep w K) (hsz : w1.heap.size = w.heap.size + 3) (hx : x.F (w.heap.size + 1)) (hs : Sep w2 (x :: since w1 (fun k => k = w.heap.size + 1 ∨ foot K k) :: H)) : ∀ k, foot H k → ¬ Mine w k := by
  rintro k ⟨g, hg, hk⟩ (e | e)
  · subst e
    refine hs.tl.apart g hg _ ⟨by omega, fun h => ?_⟩ hk
    rcases h with h | h
    · omega
    · have := hw.foot_lt _ h
      omega
  · subst e
    exact hs.apart g (List.mem_cons_of_mem _ hg) _ hx hk
section
variable {α : Type} {K Z : List Fa} {A : Option Addr} {n c : Nat} {bs rest : List Int} {f : Nat} {caps : Array Value} {φ : α → Prop} {H : α → List Fa}
theorem read_ok (hcall : ∀ args w, (callFunc f args).run Try.prog w = .ok (.enter f args) w) (hz : Sub K Z) (h : Rd Z A n c bs) (hH : ∀ a, Sub (H a) Z)
    (hc : ∀ (r : Nat) (f0 : Fa), Fn Try.prog f (#[.pointer (some ⟨r, 0, none⟩)] ++ caps) (rdb r A n c :: f0 :: K) (Ret (fun p : α × Rg => φ p.1 ∧ p.2.ok Z rest) (fun _ => .tuple #[]) (fun p => rdb r p.2.A p.2.n p.2.c :: f0 :: H p.1))) :
    Fn Try.prog 50 #[.slice A n c, .func (.func f) #[] caps] K (Ret φ (fun _ => .int .i64 (endCode rest)) H) := by
  unfold Fn
  intro w hw
  refine (Read_left (rest := rest) (U := foot K) (G := fun w2 => ∃ a, φ a ∧ Sep w2 (H a) ∧ ∀ k, foot (H a) k → ¬ Mine w k) hcall (h.vw w (hw.sub hz)) h.le h.cb (fun k hk => hw.foot_lt k hk) ?_ ?_).mono ?_
  · intro w1 hF hsz hR
    have c1 := hc (w.heap.size + 1) (since w1 (fun k => k = w.heap.size + 1 ∨ foot K k))
    unfold Fn at c1
    refine (c1 w1 (read_facts hw hF hsz hR)).mono ?_
    rintro e w2 ⟨⟨a, q⟩, ⟨ha, hq⟩, he, hs⟩
    exact ⟨he, ⟨q.A, q.n, q.c, ⟨by simpa using blk_at hs .here, hq.vw w2 (hs.sub (Sub.skip (Sub.skip (hH a)))), hq.le, hq.cb⟩⟩, hs.at (.there .here), a, ha, hs.tl.tl, read_mine hw hsz (blk_F.2 rfl) hs⟩
  · rintro w2 w' hF ⟨a, ha, hs, hd⟩
    exact ⟨a, ha, hs.fr hF hd, hd⟩
  · rintro e w' ⟨he, _, a, ha, hs, _⟩
    exact ⟨a, ha, he, hs⟩
theorem read_die {x : Int} (hcall : ∀ args w, (callFunc f args).run Try.prog w = .ok (.enter f args) w) (hz : Sub K Z) (h : Rd Z A n c bs)
    (hc : ∀ (r : Nat) (f0 : Fa), Fn Try.prog f (#[.pointer (some ⟨r, 0, none⟩)] ++ caps) (rdb r A n c :: f0 :: K) (Pan (fun p : α × Rg => φ p.1) (fun _ => stopC x) (fun p => rdb r p.2.A p.2.n p.2.c :: f0 :: H p.1))) :
    Fn Try.prog 50 #[.slice A n c, .func (.func f) #[] caps] K (Ret φ (fun _ => .int .i64 x) H) := by
  unfold Fn
  intro w hw
  refine (Read_died (c := x) (U := foot K) (G := fun w2 => ∃ a, φ a ∧ Sep w2 (H a) ∧ ∀ k, foot (H a) k → ¬ Mine w k) hcall (h.vw w (hw.sub hz)) h.le h.cb (fun k hk => hw.foot_lt k hk) ?_ ?_).mono ?_
  · intro w1 hF hsz hR
    have c1 := hc (w.heap.size + 1) (since w1 (fun k => k = w.heap.size + 1 ∨ foot K k))
    unfold Fn at c1
    refine (c1 w1 (read_facts hw hF hsz hR)).mono ?_
    rintro e w2 ⟨⟨a, q⟩, ha, he, hs⟩
    exact ⟨he, ⟨_, by simpa using blk_at hs .here⟩, hs.at (.there .here), a, ha, hs.tl.tl, read_mine hw hsz (blk_F.2 rfl) hs⟩
  · rintro w2 w' hF ⟨a, ha, hs, hd⟩
    exact ⟨a, ha, hs.fr hF hd, hd⟩
  · rintro e w' ⟨he, _, a, ha, hs, _⟩
    exact ⟨a, ha, he, hs⟩
end
end Go.Proofs.Ytemhhhikopemmaa
