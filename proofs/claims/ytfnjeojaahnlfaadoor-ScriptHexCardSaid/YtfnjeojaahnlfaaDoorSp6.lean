/- More about facts: one out of many, and back. No program is in sight. -/
import Derived.Test.YtfnjeojaahnlfaaDoorReg3
namespace Go.Proofs.YtfnjeojaahnlfaaDoor
open Go.RowKit
theorem Pick.foot {f : Fa} {L L' : List Fa} (h : Pick f L L') (k : Nat) : foot L k ↔ foot (f :: L') k := by
  constructor
  · rintro ⟨g, hg, hk⟩
    refine ⟨g, ?_, hk⟩
    rcases (h.mem g).1 hg with e | e
    · exact e ▸ List.mem_cons_self ..
    · exact List.mem_cons_of_mem _ e
  · rintro ⟨g, hg, hk⟩
    refine ⟨g, (h.mem g).2 ?_, hk⟩
    rcases List.mem_cons.1 hg with e | e
    · exact .inl e
    · exact .inr e
theorem Pick.back {f : Fa} {L L' : List Fa} (h : Pick f L L') : Ent_ (f :: L') L := by
  induction h with
  | here => exact fun w hw => hw
  | there hp ih => exact fun w hw => Ent_.tail ih (fun k hk => (hp.foot k).1 hk) w (hw.sub (.cons (.there .here) (.cons .here .refl)))
theorem Pick.out {f : Fa} {L L' : List Fa} (h : Pick f L L') : Ent_ L (f :: L') := fun _ hw => hw.pick h
theorem pick_mid {f : Fa} : ∀ (A : List Fa) {B : List Fa}, Pick f (A ++ f :: B) (A ++ B)
  | [], _ => .here
  | _ :: A, _ => .there (pick_mid A)
theorem Ent_.star_of {G G' K : List Fa} (h : Ent_ (G ++ K) (G' ++ K)) : Ent_ (star G :: K) (star G' :: K) := fun w hw => star_in w (h w (star_out w hw))
theorem bytes_set (xs : List Int) (k : Nat) (v : Int) : (bytes xs).set k (.int .u8 v) = bytes (xs.set k v) := by
  unfold bytes
  rw [List.map_set]
theorem bytes_at {xs : List Int} {k : Nat} (h : k < xs.length) : nth (bytes xs) k = some (.int .u8 xs[k]) := by
  rw [nth_eq]
  simp [bytes, h]
theorem IsBytes.set {xs : List Int} (h : IsBytes xs) (k : Nat) {v : Int} (h0 : 0 ≤ v) (h1 : v < 256) : IsBytes (xs.set k v) := fun x hx => by
  rcases List.mem_or_eq_of_mem_set hx with e | e
  · exact h x e
  · subst e
    exact ⟨h0, h1⟩
theorem two_out {f g : Fa} {A B K : List Fa} : Ent_ (star (A ++ f :: g :: B) :: K) (star (A ++ B) :: f :: g :: K) := fun w hw => by
  have h1 := star_out w hw
  rw [List.append_assoc, List.cons_append, List.cons_append] at h1
  have h2 := (Pick.there (pick_mid A)).out w ((pick_mid A).out w h1)
  rw [← List.append_assoc] at h2
  have h3 := (Pick.there (pick_mid (A ++ B))).back w h2
  exact star_in w ((pick_mid (A ++ B)).back w h3)
theorem two_in {f g : Fa} {A B K : List Fa} : Ent_ (star (A ++ B) :: f :: g :: K) (star (A ++ f :: g :: B) :: K) := fun w hw => by
  have h1 := star_out w hw
  have h2 := (Pick.there (pick_mid (A ++ B))).out w ((pick_mid (A ++ B)).out w h1)
  rw [List.append_assoc] at h2
  have h3 := (Pick.there (pick_mid A)).back w h2
  have h4 := (pick_mid A).back w h3
  refine star_in w ?_
  rw [List.append_assoc, List.cons_append, List.cons_append]
  exact h4
end Go.Proofs.YtfnjeojaahnlfaaDoor
