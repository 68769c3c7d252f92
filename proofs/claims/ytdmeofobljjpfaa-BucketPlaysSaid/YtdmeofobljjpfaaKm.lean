/- Maps whose entries own something: each with a key, a value, what it owns. No program is in sight. -/
import Derived.Test.YtdmeofobljjpfaaMp
import Derived.Test.YtdmeofobljjpfaaSp6
import Derived.Test.YtdmeofobljjpfaaSp5
namespace Go.Proofs.Ytdmeofobljjpfaa
open Go.RowKit Go.MapKept
/-- One fact out of several. -/
theorem kstar_get {f : Fa} {G L : List Fa} (h : At (star G) L) (hf : f ∈ G) : Vw L f.P := fun w hw => by
  have h1 := hw.at h
  unfold star at h1
  exact h1.mem hf
theorem kstar_pull {A B K : List Fa} {f : Fa} : Ent_ (star (A ++ f :: B) :: K) (f :: star (A ++ B) :: K) := fun w hw => by
  have h1 := star_out w hw
  rw [List.append_assoc, List.cons_append] at h1
  have h2 := (pick_mid A).out w h1
  rw [← List.append_assoc] at h2
  exact Ent_.tail star_in (fun k hk => by
    rcases foot_cons.1 hk with e | e
    · unfold star at e
      obtain ⟨y, hy, hk⟩ := e
      exact ⟨y, List.mem_append_left _ hy, hk⟩
    · obtain ⟨y, hy, hk⟩ := e
      exact ⟨y, List.mem_append_right _ hy, hk⟩) w h2
theorem kstar_push {A B K : List Fa} {f : Fa} : Ent_ (f :: star (A ++ B) :: K) (star (A ++ f :: B) :: K) := fun w hw => by
  refine star_in w ?_
  rw [List.append_assoc, List.cons_append]
  refine (pick_mid A).back w ?_
  rw [← List.append_assoc]
  exact Ent_.tail star_out (fun k hk => by
    obtain ⟨y, hy, hk⟩ := hk
    rcases List.mem_append.1 hy with e | e
    · exact foot_cons.2 (.inl (by unfold star; exact ⟨y, e, hk⟩))
    · exact foot_cons.2 (.inr ⟨y, e, hk⟩)) w hw
theorem own_PK {e : TypeId} {size n c : Nat} {A : Option Addr} {xs : List Value} {w : World} (h : (own e size A n c xs).P w) : w.ownsRow 0 e size (.slice A n c) n xs := by
  unfold own at h
  exact h
theorem se_subK {Q : Exit → Act → World → Prop} {e : Exit} {n : Nat} {l : Env} {L L' : List Fa} (hs : Sub L L') (h : SE Q e n l L') : SE Q e n l L := se_ent (fun _ hw => hw.sub hs) h
theorem sub_star0 {L L' : List Fa} (h : Sub L L') : Sub L (star [] :: L') :=
  .free (fun w => by unfold star; exact (Sep.start w).sub Sub.nil) (fun j hj => by unfold star at hj; exact foot_nil hj) h
theorem sub_splitK {α : Type} {us fs : List α} (h1 : us.Nodup) (h2 : fs.Nodup) (hs : ∀ u ∈ us, u ∈ fs) : ∃ z, (us ++ z).Perm fs := by
  classical
  refine ⟨fs.filter (fun x => decide (x ∉ us)), (List.perm_ext_iff_of_nodup (List.nodup_append.2 ⟨h1, h2.filter _, fun a ha b hb e => ?_⟩) h2).2 fun x => ?_⟩
  · subst e
    simp only [List.mem_filter, decide_eq_true_eq] at hb
    exact hb.2 ha
  · simp only [List.mem_append, List.mem_filter, decide_eq_true_eq]
    refine ⟨fun h => h.elim (hs x) (·.1), fun h => ?_⟩
    by_cases hx : x ∈ us
    · exact .inl hx
    · exact .inr ⟨h, hx⟩
structure MK (α : Type) where
  key : α → Value
  val : α → Value
  bn : α → Nat
  fa : α → Fa
def MK.ent {α : Type} (M : MK α) (a : α) : MapEntry := ⟨M.key a, M.val a, M.bn a⟩
abbrev kM {α : Type} (M : MK α) (m : Nat) (d : TypeDesc) (fs : List α) (ck : Nat) : Fa := mp m d (fs.map M.ent) ck
abbrev kS {α : Type} (M : MK α) (fs : List α) : Fa := star (fs.map M.fa)
section
variable {P : Program} {ops : Array Oper} {Q : Exit → Act → World → Prop} {n : Nat} {l : Env} {L L' : List Fa} {rest : List Oper} {ty t kt e : TypeId} {pos : String} {after : Array Edge} {x y u : Operand} {m ck : Nat} {d : TypeDesc} {α : Type} {M : MK α} {X Y fs : List α} {f f' : α} {K : List Fa} {k v : Value}
theorem kget (h : f ∈ fs) : MGet (fs.map M.ent) (M.key f) (M.val f) := ⟨M.ent f, List.mem_map.2 ⟨f, h, rfl⟩, rfl, rfl⟩
theorem kno (h : ∀ f ∈ fs, M.key f ≠ k) : MNo (fs.map M.ent) k := fun e he hk => by
  obtain ⟨f, hf, rfl⟩ := List.mem_map.1 he
  exact h f hf hk
theorem kM_split : kM M m d (X ++ f :: Y) ck = mp m d (X.map M.ent ++ M.ent f :: Y.map M.ent) ck := by
  show mp m d ((X ++ f :: Y).map M.ent) ck = _
  rw [List.map_append, List.map_cons]
theorem sl_kput (hx : ev l x = some (.map (some m))) (hy : ev l y = some (M.key f)) (hu : ev l u = some (M.val f')) (hs : M.key f' = M.key f) (hb : M.bn f' = M.bn f) (hp : Pick (kM M m d (X ++ f :: Y) ck) L L') (ht : P.underlying t = some (.map kt e)) (hd : P.underlying kt = some d) (hk : IsKey d (M.key f))
    (h : SL P ops Q rest n l (kM M m d (X ++ f' :: Y) ck :: L')) : SL P ops Q (⟨none, .mapUpdate t x y u, ty, pos, after, none⟩ :: rest) n l L := by
  rw [kM_split] at hp h
  refine sl_mapPut (me := M.ent f) hx hy hu hp ht hd hk ?_
  have he : (⟨(M.ent f).key, M.val f', (M.ent f).born⟩ : MapEntry) = M.ent f' := by
    unfold MK.ent
    rw [hs, hb]
  rw [he]
  exact h
theorem sl_knew (hx : ev l x = some (.map (some m))) (hy : ev l y = some k) (hu : ev l u = some (M.val f')) (hs : M.key f' = k) (hb : M.bn f' = ck) (hn : ∀ f ∈ fs, M.key f ≠ k) (hp : Pick (kM M m d fs ck) L L') (ht : P.underlying t = some (.map kt e)) (hd : P.underlying kt = some d) (hk : IsKey d k)
    (h : SL P ops Q rest n l (kM M m d (fs ++ [f']) (ck + 1) :: L')) : SL P ops Q (⟨none, .mapUpdate t x y u, ty, pos, after, none⟩ :: rest) n l L := by
  refine sl_mapNew hx hy hu hp ht hd hk (kno hn) ?_
  have he : fs.map M.ent ++ [(⟨k, M.val f', ck⟩ : MapEntry)] = (fs ++ [f']).map M.ent := by
    rw [List.map_append]
    unfold MK.ent
    simp [hs, hb]
  rw [he]
  exact h
theorem ks_swap : Ent_ (M.fa f' :: kS M (X ++ f :: Y) :: K) (kS M (X ++ f' :: Y) :: K) := fun w hw => by
  have e1 : kS M (X ++ f :: Y) = star (X.map M.fa ++ M.fa f :: Y.map M.fa) := by
    show star _ = _
    rw [List.map_append, List.map_cons]
  have e2 : kS M (X ++ f' :: Y) = star (X.map M.fa ++ M.fa f' :: Y.map M.fa) := by
    show star _ = _
    rw [List.map_append, List.map_cons]
  rw [e1] at hw
  rw [e2]
  have h1 : Sep w (star (X.map M.fa ++ M.fa f :: Y.map M.fa) :: M.fa f' :: K) := hw.sub (Sub.cons (Pick.there Pick.here) (Sub.cons Pick.here Sub.refl))
  have h2 := kstar_pull w h1
  have h3 : Sep w (M.fa f' :: star (X.map M.fa ++ Y.map M.fa) :: K) := h2.sub (Sub.cons (Pick.there (Pick.there Pick.here)) (Sub.skip (Sub.cons Pick.here Sub.refl)))
  exact kstar_push w h3
theorem ks_new : Ent_ (M.fa f' :: kS M fs :: K) (kS M (fs ++ [f']) :: K) := fun w hw => by
  have e2 : kS M (fs ++ [f']) = star (fs.map M.fa ++ M.fa f' :: []) := by
    show star _ = _
    rw [List.map_append, List.map_cons, List.map_nil]
  rw [e2]
  refine kstar_push w ?_
  rw [List.append_nil]
  exact hw
theorem ks_same (h : M.fa f' = M.fa f) : kS M (X ++ f' :: Y) = kS M (X ++ f :: Y) := by
  show star _ = star _
  rw [List.map_append, List.map_append, List.map_cons, List.map_cons, h]
theorem ks_get (h : At (kS M fs) L) (hf : f ∈ fs) : Vw L (M.fa f).P := kstar_get h (List.mem_map.2 ⟨f, hf, rfl⟩)
theorem kmid_mem : f ∈ X ++ f :: Y := by simp
theorem kM_nodup (h : At (kM M m d fs ck) L) : ∀ w, Sep w L → fs.Nodup ∧ fs.Pairwise (fun a b => M.key a ≠ M.key b) := fun w hw => by
  have h1 : MapP m d (fs.map M.ent) ck w := mp_P ▸ hw.at h
  have h3 := ((stamped_iff _ _).1 h1.2.1).2.2
  rw [List.toList_toArray, List.pairwise_map] at h3
  exact ⟨h3.imp (fun {a b} hab e => hab (congrArg M.key e)), h3⟩
theorem kent_inj {a b : α} (hn : fs.Pairwise (fun a b => M.key a ≠ M.key b)) (ha : a ∈ fs) (hb : b ∈ fs) (h : M.ent a = M.ent b) : a = b :=
  pw_one (f := M.key) hn ha hb (congrArg MapEntry.key h)
end
end Go.Proofs.Ytdmeofobljjpfaa
