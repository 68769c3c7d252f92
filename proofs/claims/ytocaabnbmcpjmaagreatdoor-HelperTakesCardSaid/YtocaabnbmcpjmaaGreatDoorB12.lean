/- Several texts of one claim, one behind the other (Pd, Str, App, Jt). -/
import Derived.Test.YtocaabnbmcpjmaaGreatDoorB06
import Derived.Test.YtocaabnbmcpjmaaGreatDoorB01
import Derived.Test.YtocaabnbmcpjmaaGreatDoorB05
import Derived.Lib.Bytes
import Derived.Deep.AppendSrc
import Derived.Test.YtocaabnbmcpjmaaGreatDoorB11
set_option linter.unusedVariables false
set_option linter.unusedSimpArgs false
/- pack.Read over facts. -/
namespace Go.Proofs.YtocaabnbmcpjmaaGreatDoor
open Go.RowKit
/-- All but T as it was at w1. -/
def since (w1 : World) (T : Nat → Prop) : Fa := ⟨fun w => Fr T w1 w, fun k => k < w1.heap.size ∧ ¬ T k, fun h e => by have := h.size; omega, fun h hF hn => h.trans hF (fun k hk e => Classical.byContradiction fun ht => hn k ⟨hk, ht⟩ e)⟩
attribute [local semireducible] Sep in
theorem Sep.cons {w : World} {f : Fa} {L : List Fa} (h1 : f.P w) (h2 : ∀ g ∈ L, ∀ k, f.F k → ¬ g.F k) (h3 : Sep w L) : Sep w (f :: L) := ⟨h1, h2, h3⟩
theorem blk_F {g : Nat} {t : TypeId} {cs : List Value} {k : Nat} : (blk g t cs).F k ↔ k = g := by
  unfold blk
  exact Iff.rfl
theorem blk_P {g : Nat} {t : TypeId} {cs : List Value} {w : World} : (blk g t cs).P w ↔ Blk w g t cs.toArray := by
  unfold blk
  exact Iff.rfl
theorem read_facts {K : List Fa} {w w1 : World} {A : Option Addr} {n c : Nat} {bs : List Int} (hw : Sep w K) (hF : Fr Nil w w1) (hsz : w1.heap.size = w.heap.size + 3) (hR : RdR w1 (w.heap.size + 1) A n c bs true) :
    Sep w1 (rdb (w.heap.size + 1) A n c :: since w1 (fun k => k = w.heap.size + 1 ∨ foot K k) :: K) := by
  refine Sep.cons (blk_P.2 (by simpa using hR.blk)) (fun g hg k hk => ?_) (Sep.cons (Fr.refl _ _) (fun g hg k hk hk' => hk.2 (.inr ⟨g, hg, hk'⟩)) (hw.nil hF))
  rw [blk_F.1 hk]
  rcases List.mem_cons.1 hg with e | e
  · subst e
    exact fun h => h.2 (.inl rfl)
  · intro h
    have := hw.foot_lt _ ⟨g, e, h⟩
    omega
theorem read_mine {H K : List Fa} {w w1 w2 : World} {x : Fa} (hw : Sep w K) (hsz : w1.heap.size = w.heap.size + 3) (hx : x.F (w.heap.size + 1)) (hs : Sep w2 (x :: since w1 (fun k => k = w.heap.size + 1 ∨ foot K k) :: H)) : ∀ k, foot H k → ¬ Mine w k := by
  rintro k ⟨g, hg, hk⟩ (e | e)
  · subst e
    refine hs.tl.apart g hg _ ⟨by omega, fun h => ?_⟩ hk
    rcases h with h | h
    · omega
    · have := hw.foot_lt _ h
      omega
  · subst e
    exact hs.apart g (List.mem_cons_of_mem _ hg) _ hx hk
section
variable {α : Type} {K Z : List Fa} {A : Option Addr} {n c : Nat} {bs rest : List Int} {f : Nat} {caps : Array Value} {φ : α → Prop} {H : α → List Fa}
theorem read_ok (hcall : ∀ args w, (callFunc f args).run Tryz.prog w = .ok (.enter f args) w) (hz : Sub K Z) (h : Rd Z A n c bs) (hH : ∀ a, Sub (H a) Z)
    (hc : ∀ (r : Nat) (f0 : Fa), Fn Tryz.prog f (#[.pointer (some ⟨r, 0, none⟩)] ++ caps) (rdb r A n c :: f0 :: K) (Ret (fun p : α × Rg => φ p.1 ∧ p.2.ok Z rest) (fun _ => .tuple #[]) (fun p => rdb r p.2.A p.2.n p.2.c :: f0 :: H p.1))) :
    Fn Tryz.prog 42 #[.slice A n c, .func (.func f) #[] caps] K (Ret φ (fun _ => .int .i64 (endCode rest)) H) := by
  unfold Fn
  intro w hw
  refine (Read_left (rest := rest) (U := foot K) (G := fun w2 => ∃ a, φ a ∧ Sep w2 (H a) ∧ ∀ k, foot (H a) k → ¬ Mine w k) hcall (h.vw w (hw.sub hz)) h.le h.cb (fun k hk => hw.foot_lt k hk) ?_ ?_).mono ?_
  · intro w1 hF hsz hR
    have c1 := hc (w.heap.size + 1) (since w1 (fun k => k = w.heap.size + 1 ∨ foot K k))
    unfold Fn at c1
    refine (c1 w1 (read_facts hw hF hsz hR)).mono ?_
    rintro e w2 ⟨⟨a, q⟩, ⟨ha, hq⟩, he, hs⟩
    exact ⟨he, ⟨q.A, q.n, q.c, ⟨by simpa using blk_at hs .here, hq.vw w2 (hs.sub (Sub.skip (Sub.skip (hH a)))), hq.le, hq.cb⟩⟩, hs.at (.there .here), a, ha, hs.tl.tl, read_mine hw hsz (blk_F.2 rfl) hs⟩
  · rintro w2 w' hF ⟨a, ha, hs, hd⟩
    exact ⟨a, ha, hs.fr hF hd, hd⟩
  · rintro e w' ⟨he, _, a, ha, hs, _⟩
    exact ⟨a, ha, he, hs⟩
theorem read_die {x : Int} (hcall : ∀ args w, (callFunc f args).run Tryz.prog w = .ok (.enter f args) w) (hz : Sub K Z) (h : Rd Z A n c bs)
    (hc : ∀ (r : Nat) (f0 : Fa), Fn Tryz.prog f (#[.pointer (some ⟨r, 0, none⟩)] ++ caps) (rdb r A n c :: f0 :: K) (Pan (fun p : α × Rg => φ p.1) (fun _ => stopC x) (fun p => rdb r p.2.A p.2.n p.2.c :: f0 :: H p.1))) :
    Fn Tryz.prog 42 #[.slice A n c, .func (.func f) #[] caps] K (Ret φ (fun _ => .int .i64 x) H) := by
  unfold Fn
  intro w hw
  refine (Read_died (c := x) (U := foot K) (G := fun w2 => ∃ a, φ a ∧ Sep w2 (H a) ∧ ∀ k, foot (H a) k → ¬ Mine w k) hcall (h.vw w (hw.sub hz)) h.le h.cb (fun k hk => hw.foot_lt k hk) ?_ ?_).mono ?_
  · intro w1 hF hsz hR
    have c1 := hc (w.heap.size + 1) (since w1 (fun k => k = w.heap.size + 1 ∨ foot K k))
    unfold Fn at c1
    refine (c1 w1 (read_facts hw hF hsz hR)).mono ?_
    rintro e w2 ⟨⟨a, q⟩, ha, he, hs⟩
    exact ⟨he, ⟨_, by simpa using blk_at hs .here⟩, hs.at (.there .here), a, ha, hs.tl.tl, read_mine hw hsz (blk_F.2 rfl) hs⟩
  · rintro w2 w' hF ⟨a, ha, hs, hd⟩
    exact ⟨a, ha, hs.fr hF hd, hd⟩
  · rintro e w' ⟨he, _, a, ha, hs, _⟩
    exact ⟨a, ha, he, hs⟩
end
end Go.Proofs.YtocaabnbmcpjmaaGreatDoor
/- Strings of bytes. No program is in sight. -/
namespace Go.Proofs.YtocaabnbmcpjmaaGreatDoor
open Go.RowKit
theorem nums_back {p : List Int} (h : IsBytes p) : (p.map fun n => UInt8.ofNat n.toNat).map (fun u => (u.toNat : Int)) = p := by
  rw [List.map_map]
  conv => rhs; rw [← List.map_id p]
  refine List.map_congr_left fun x hx => ?_
  obtain ⟨h1, h2⟩ := h x hx
  simp [UInt8.toNat_ofNat']
  omega
theorem str_toList (p : List Int) : (strOfNums p).toList = p.map fun n => UInt8.ofNat n.toNat := by
  rw [Lib.strOfNums_toList]
  rfl
theorem strs_dec {p q : List Int} (hp : IsBytes p) (hq : IsBytes q) : ((strOfNums p).toList == (strOfNums q).toList) = decide (p = q) := by
  rw [Bool.eq_iff_iff, beq_iff_eq, decide_eq_true_eq, str_toList, str_toList]
  constructor
  · intro h
    rw [← nums_back hp, ← nums_back hq, h]
  · intro h
    rw [h]
end Go.Proofs.YtocaabnbmcpjmaaGreatDoor
/- append where there is no room, and of nothing. No program is in sight. -/
namespace Go.Proofs.YtocaabnbmcpjmaaGreatDoor
open Go.RowKit
section
variable {P : Program} {ops : Array Oper} {Q : Exit → Act → World → Prop} {n : Nat} {l : Env} {L L' : List Fa} {rest : List Oper} {d : Tmp} {ty t t' e : TypeId} {pos : String} {after : Array Edge} {x y : Operand} {k m c cb size bytes : Nat} {A B : Option Addr} {xs ys : List Value} {z : Value}
/-- A slice whose room is its length: a new row. -/
theorem sl_app_full (hx : ev l x = some (.slice A k k)) (hr0 : Vw L (fun w => Reads w size A k xs)) (hk : 0 < k) (hy : ev l y = some (.slice B m cb)) (hr : Vw L (fun w => Reads w size B m ys)) (hm : 0 < m) (ht : P.underlying t = some (.slice e)) (hi : (P.info? e).map (fun i => (i.zero, i.size, i.bytes)) = some (some z, size, bytes)) (hzs : z.cells.size = size)
    (hd : Nat.blt d n = true) (h63 : k + m ≤ maxLen) (hby : (k + m) * bytes ≤ 140737488355328)
    (h : ∀ g c', SL P ops Q rest n ((d, .slice (some ⟨g, 0, none⟩) (k + m) c') :: l) (own e size (some ⟨g, 0, none⟩) (k + m) c' (xs ++ ys) :: L)) : SL P ops Q (⟨some d, .call { callee := .builtin .append, args := #[x, y], argTypes := #[t, t] }, ty, pos, after, none⟩ :: rest) n l L := sl_of fun w hw => by
  obtain ⟨i, hi0, hz0, hz1, hz2⟩ := info_parts hi
  subst hz1 hz2
  have hR0 := hr0 w hw
  have hR := hr w hw
  obtain ⟨ad, rfl, hc0⟩ := hR0.2 hk
  obtain ⟨bd, rfl, hc1⟩ := hR.2 hm
  have h63' : ((k + m : Nat) : Int) ≤ 9223372036854775807 := by
    have := h63
    simp [maxLen] at this
    omega
  have hrun := run_append_grow (P := P) (w := w) t ty e i z ht hi0 hz0 ad k k xs hR0.1 hc0 bd m cb ys hR.1 hc1 (by omega) h63' (growslice_fits (by omega) hby)
  have hge := grownCap_ge w (k + m) k e
  have hle := grownCap_le_maxLen w (k + m) k e h63
  refine wl_run (v := .slice (some ⟨w.heap.size, 0, none⟩) (k + m) (grownCap w (k + m) k e)) (w' := w.drew.alloc (.cells (xs.toArray ++ ys.toArray ++ Builtin.zeroCells z.cells (grownCap w (k + m) k e - (k + m))) e)) ?_ hd ((h w.heap.size _).to (hw.new ((Fr.refl Nil w).drew.alloc _) ?_ (fun j hj => ?_)))
  · unfold Ru
    intro a _ _ _ _ hs
    simp only [execOp, resolve, List.map_toArray, List.map_cons, List.map_nil, hs.ev hx, hs.ev hy]
    simp only [invoke, builtin, Sem.run_bind, Sem.run_pure, Result.andThen_ok, hrun]
  · have h0 := hR0.1
    have h1 := hR.1
    have h2 : (grownCap w (k + m) k e - (k + m)) * i.size = grownCap w (k + m) k e * i.size - (k + m) * i.size := Nat.sub_mul _ _ _
    have h3 : (k + m) * i.size ≤ grownCap w (k + m) k e * i.size := Nat.mul_le_mul_right _ hge
    have h4 : (k + m) * i.size = k * i.size + m * i.size := Nat.add_mul _ _ _
    refine own_mk (own_close (cur := xs.toArray ++ ys.toArray ++ Builtin.zeroCells z.cells (grownCap w (k + m) k e - (k + m))) (Blk.new w.drew e _) hge hle ?_ ?_ ?_)
    · simp only [Array.size_append, List.size_toArray, Builtin.zeroCells, Array.size_map, Array.size_range, hzs]
      omega
    · simp only [Array.toList_append, List.toList_toArray]
      rw [List.take_left']
      rw [List.length_append]
      omega
    · rw [List.length_append]
      omega
  · rw [own_F] at hj
    exact Nat.le_of_eq (Option.some.inj hj)
/-- Nothing is appended. -/
theorem sl_app_none (hx : ev l x = some (.slice A k c)) (hkc : k ≤ c) (hy : ev l y = some (.slice B 0 cb)) (ht : P.underlying t = some (.slice e)) (hi : (P.info? e).map (fun i => (i.zero, i.size, i.bytes)) = some (some z, size, bytes)) (hd : Nat.blt d n = true)
    (h : SL P ops Q rest n ((d, .slice A k c) :: l) L) : SL P ops Q (⟨some d, .call { callee := .builtin .append, args := #[x, y], argTypes := #[t, t] }, ty, pos, after, none⟩ :: rest) n l L := sl_of fun w hw => by
  obtain ⟨i, hi0, hz0, hz1, hz2⟩ := info_parts hi
  subst hz1 hz2
  have hrun : (Builtin.append_ #[t, t] ty #[.slice A k c, .slice B 0 cb]).run P w = .ok (.slice A k c) w := by
    have h2 : ∀ W : World, (Builtin.firstCells i.size 0 (.slice B 0 cb)).run P W = .ok #[] W := fun W => by
      cases B with
      | none => simp [Builtin.firstCells]
      | some b => simpa using run_firstCells_some (P := P) W i.size 0 b 0 cb [] (by simp) (by simp)
    cases A with
    | none => simp [Builtin.append_, run_underlying ht, sizeOf, typeInfo, hi0, Builtin.lenOf, hkc, h2]
    | some a => simp [Builtin.append_, run_underlying ht, sizeOf, typeInfo, hi0, Builtin.lenOf, hkc, h2, storeCells]
  refine wl_run (v := .slice A k c) (w' := w) ?_ hd (h.to hw)
  unfold Ru
  intro a _ _ _ _ hs
  simp only [execOp, resolve, List.map_toArray, List.map_cons, List.map_nil, hs.ev hx, hs.ev hy]
  simp only [invoke, builtin, Sem.run_bind, Sem.run_pure, Result.andThen_ok, hrun]
end
end Go.Proofs.YtocaabnbmcpjmaaGreatDoor
/- A cell out of a journal: take. -/
namespace Go.Proofs.YtocaabnbmcpjmaaGreatDoor
open Go.RowKit
attribute [local irreducible] Go.Calls Go.Exit.then Go.Exit.inBlock Go.bodyPost Go.Code.wp Go.wpList
theorem jc_one {f : Int} {A : Option Addr} {s c : Nat} : ∀ v ∈ [Value.int .i64 f, .slice A s c], v.oneCell' = true := by
  intro v hv
  simp only [List.mem_cons, List.not_mem_nil, or_false] at hv
  rcases hv with rfl | rfl <;> rfl
theorem nth_Jt {φ : Prop} (h : φ := by (first | rfl | rfl)) : φ := h
theorem mid_Jt {φ : Prop} (h : φ := by (first | exact Mid.all | exact Mid.all | exact Mid.head)) : φ := h
theorem sz_Jt {φ : Prop} (h : φ := by (first | rfl | (rfl; first | done | fail))) : φ := h
theorem one_Jt {φ : Prop} (h : φ := by (first | assumption | exact one_bytes _ | (simp only [List.mem_cons, List.not_mem_nil, or_false, forall_eq_or_imp, forall_eq]; decide) | exact one_bytes _ | (intro v hv; (repeat (rcases List.mem_cons.1 hv with rfl | hv; rfl)); cases hv))) : φ := h
theorem set_Jt {φ : Prop} (h : φ := by (first | (fail) | ((repeat (first | exact SetAt.here | apply SetAt.there)); first | done | fail))) : φ := h
theorem cl_Jt {φ : Prop} (h : φ := by first | rfl | exact .t | exact .f | exact .t (by omega) | exact .f (by omega) | exact .u | exact .i (by (first | exact .t (by omega) | exact .f (by omega) | exact .u | exact .i (by omega) | exact .v (by omega) | exact .b (by omega) | exact .w | rfl | omega)) | exact .v (by omega) | exact .b (by omega) | exact .q (by omega) | exact .w | exact .b (by exact at_) rfl (by exact nth_Jt) | exact .w (by exact at_) rfl rfl (by exact sz_Jt) | exact .s (by exact at_) (by exact mid_Jt) rfl rfl (by exact sz_Jt) | exact .z rfl rfl ⟨by kernel_rfl⟩ | exact .b rfl rfl ⟨by kernel_rfl⟩ | exact .a rfl rfl ⟨by kernel_rfl⟩ | exact .o rfl | exact .s | exact .n | exact .p rfl | exact .q rfl | exact .c rfl | exact .d rfl | exact .n rfl rfl (by omega) | exact .a rfl rfl (by omega) | exact .p rfl rfl (by omega) (by omega) | exact .y rfl rfl (by omega) (by omega) | exact .o (by exact at_) (by omega) rfl (by exact nth_Jt) | exact .m (by exact at_) (by omega) (by exact mid_Jt) rfl rfl (by exact sz_Jt) | exact .mlen (by exact at_) rfl | exact .t (by exact at_) rfl rfl (by first | exact True.intro | rfl) (by assumption) | exact .f (by exact at_) rfl rfl (by first | exact True.intro | rfl) (by assumption) rfl | exact .t1 (by exact at_) rfl rfl (by first | exact True.intro | rfl) (by assumption) | exact .f1 (by exact at_) rfl rfl (by first | exact True.intro | rfl) (by assumption) rfl | exact .tk (by exact at_) rfl (by assumption) (by assumption) | exact .fk (by exact at_) rfl (by assumption) (by assumption) rfl | exact .tk1 (by exact at_) rfl (by assumption) (by assumption) | exact .fk1 (by exact at_) rfl (by assumption) (by assumption) rfl | exact .r rfl rfl (by omega) (by omega) (by exact nth_Jt) rfl | exact .s rfl (by omega) (by assumption) | exact at_ | assumption | exact .r rfl rfl | exact .h rfl rfl rfl (by omega) | exact .l rfl rfl rfl (by omega) (by omega) | exact .g rfl rfl rfl rfl (by omega) (by omega) | exact .h rfl rfl (toN_ (by omega)) (by omega) | exact .l rfl rfl (toN_ (by omega)) (by omega) (by omega) | exact .g rfl rfl (toN_ (by omega)) (toN_ (by omega)) (by omega) (by omega) | exact .o (by decide) | exact .f (by decide) | exact .n (by omega) (by first | decide | (show _ ≤ ((64 : Nat) : Int); omega)) | (constructor; (repeat (first | exact .t (by omega) | exact .f (by omega) | exact .u | exact .i (by omega) | exact .v (by omega) | exact .b (by omega) | exact .w | rfl | omega)); first | done | fail) | omega | (show _ ≤ ((64 : Nat) : Int); omega)) : φ := h
theorem pv_Jt {φ : Prop} (h : φ := by constructor; (repeat exact cl_Jt); first | done | fail) : φ := h
theorem su_Jt {φ ψ : Prop} (k : ψ) (h : Hide ψ → φ := by (intro k; (first | refine sl_pu (PuI.sep (by exact pv_Jt)) rfl ?_ | refine sl_yes rfl rfl ?_ | refine sl_no rfl rfl rfl ?_ | refine sl_off rfl rfl rfl ?_ | (fail)); exact k.out)) : φ := h ⟨k⟩
theorem sto_Jt {φ ψ : Prop} (k : ψ) (h : Hide ψ → φ := by (intro k; (first | refine sl_store rfl (by exact pick_) rfl rfl (by kernel_rfl) (by exact set_Jt) ?_ | refine sl_store_whole rfl (by exact pick_) rfl (by exact sz_Jt) (by exact sz_Jt) (by exact one_Jt) ?_); exact k.out)) : φ := h ⟨k⟩
theorem go_Jt {φ ψ : Prop} (k : ψ) (h : Hide ψ → φ := by (intro k; (repeat (first | refine su_Jt ?_ | refine so_ ?_ | refine sto_Jt ?_)); exact k.out)) : φ := h ⟨k⟩
/-- What the closure of take leaves behind. -/
abbrev jcl (g8 g7 g9 : Nat) (a b s : Int) (A : Option Addr) (n c : Nat) : List Fa := [blk g8 3 [.int .i64 a], blk g7 162 [.int .i64 b, .slice A n c], blk g9 3 [.int .i64 s]]
set_option maxRecDepth 100000 in
set_option maxHeartbeats 4000000 in
theorem take1_ok {K Z : List Fa} {r g8 g7 g9 c : Nat} {A : Option Addr} {d : List Int} (hz : Sub K Z) (h : Rd Z A 56 c d) (hs : leV ((d.drop 6).take 2) ≤ 48) :
    Fn Tryz.prog 102 #[.pointer (some ⟨r, 0, none⟩), .pointer (some ⟨g8, 0, none⟩), .pointer (some ⟨g7, 0, none⟩), .pointer (some ⟨g9, 0, none⟩)] (rdb r A 56 c :: jcl g8 g7 g9 0 0 0 none 0 0 ++ K)
      (Ret (fun p : (Option Addr × Nat) × Rg => p.2.ok Z []) (fun _ => .tuple #[]) (fun p => rdb r p.2.A p.2.n p.2.c :: own 5 1 p.1.1 48 p.1.2 (bytes ((d.drop 8).take 48)) :: jcl g8 g7 g9 (leV (d.take 3)) (leV ((d.drop 3).take 3)) (leV ((d.drop 6).take 2)) p.1.1 48 p.1.2 ++ K)) := by
  refine fn_enter Tryz.func102 rfl _ Tryz.ntmps102 (by simp) [(0, .pointer (some ⟨r, 0, none⟩)), (1, .pointer (some ⟨g8, 0, none⟩)), (2, .pointer (some ⟨g7, 0, none⟩)), (3, .pointer (some ⟨g9, 0, none⟩))] (args_of (by simp)) ?_
  have hl := h.len
  have v0 : 0 ≤ leV (d.take 3) ∧ leV (d.take 3) < 16777216 := by simpa [hl] using leV_lt (h.okb.take 3)
  have v1 : 0 ≤ leV ((d.drop 3).take 3) ∧ leV ((d.drop 3).take 3) < 16777216 := by simpa [hl] using leV_lt ((h.okb.drop 3).take 3)
  have v2 : 0 ≤ leV ((d.drop 6).take 2) ∧ leV ((d.drop 6).take 2) < 65536 := by simpa [hl] using leV_lt ((h.okb.drop 6).take 2)
  show SC _ _ _ _ _ (rdb r A 56 c :: blk g8 3 [.int .i64 0] :: blk g7 162 [.int .i64 0, .slice none 0 0] :: blk g9 3 [.int .i64 0] :: K)
  refine go_Jt ?_
  refine sl_call rfl rfl (by kernel_rfl) rfl (by exact sub_) (rUint (K := blk g8 3 [.int .i64 0] :: blk g7 162 [.int .i64 0, .slice none 0 0] :: blk g9 3 [.int .i64 0] :: K) (k := 3) (Sub.skip (Sub.skip (Sub.skip hz))) h (by decide) (by decide)) ?_
  rintro ⟨A1, n1, c1⟩ hq1
  replace hq1 : Rd Z A1 n1 c1 (d.drop 3) := hq1
  have e1 := hq1.len
  rw [List.length_drop, hl] at e1
  refine go_Jt ?_
  refine sl_call rfl rfl (by kernel_rfl) rfl (by exact sub_) (rUint (K := blk g8 3 [.int .i64 (leV (d.take 3))] :: blk g7 162 [.int .i64 0, .slice none 0 0] :: blk g9 3 [.int .i64 0] :: K) (k := 3) (Sub.skip (Sub.skip (Sub.skip hz))) hq1 (by decide) (by omega)) ?_
  rintro ⟨A2, n2, c2⟩ hq2
  replace hq2 : Rd Z A2 n2 c2 ((d.drop 3).drop 3) := hq2
  rw [List.drop_drop] at hq2
  replace hq2 : Rd Z A2 n2 c2 (d.drop 6) := hq2
  have e2 := hq2.len
  rw [List.length_drop, hl] at e2
  refine go_Jt ?_
  refine sl_call rfl rfl (by kernel_rfl) rfl (by exact sub_) (rCount (K := blk g8 3 [.int .i64 (leV (d.take 3))] :: blk g7 162 [.int .i64 (leV ((d.drop 3).take 3)), .slice none 0 0] :: blk g9 3 [.int .i64 0] :: K) (k := 2) (Sub.skip (Sub.skip (Sub.skip hz))) hq2 (by decide) (by omega) hs (by decide)) ?_
  rintro ⟨A3, n3, c3⟩ hq3
  replace hq3 : Rd Z A3 n3 c3 ((d.drop 6).drop 2) := hq3
  rw [List.drop_drop] at hq3
  replace hq3 : Rd Z A3 n3 c3 (d.drop 8) := hq3
  have e3 := hq3.len
  rw [List.length_drop, hl] at e3
  refine go_Jt ?_
  refine sl_call rfl rfl (by kernel_rfl) rfl (by exact sub_) (rRaw (K := blk g8 3 [.int .i64 (leV (d.take 3))] :: blk g7 162 [.int .i64 (leV ((d.drop 3).take 3)), .slice none 0 0] :: blk g9 3 [.int .i64 (leV ((d.drop 6).take 2))] :: K) (k := 48) (Sub.skip (Sub.skip (Sub.skip hz))) hq3 (by omega)) ?_
  rintro ⟨⟨A4, c4⟩, ⟨A5, n5, c5⟩⟩ hq4
  replace hq4 : Rd Z A5 n5 c5 ((d.drop 8).drop 48) := hq4
  rw [List.drop_drop, List.drop_of_length_le (by omega)] at hq4
  refine go_Jt ?_
  refine se_end0 ((A4, c4), ⟨A5, n5, c5⟩) hq4 rfl rfl ?_
  show Sub _ (rdb r A5 n5 c5 :: own 5 1 A4 48 c4 (bytes ((d.drop 8).take 48)) :: blk g8 3 [.int .i64 (leV (d.take 3))] :: blk g7 162 [.int .i64 (leV ((d.drop 3).take 3)), .slice A4 48 c4] :: blk g9 3 [.int .i64 (leV ((d.drop 6).take 2))] :: K)
  exact sub_
set_option maxRecDepth 100000 in
set_option maxHeartbeats 4000000 in
theorem take1_die {K Z : List Fa} {r g8 g7 g9 c : Nat} {A : Option Addr} {d : List Int} (hz : Sub K Z) (h : Rd Z A 56 c d) (hs : 48 < leV ((d.drop 6).take 2)) :
    Fn Tryz.prog 102 #[.pointer (some ⟨r, 0, none⟩), .pointer (some ⟨g8, 0, none⟩), .pointer (some ⟨g7, 0, none⟩), .pointer (some ⟨g9, 0, none⟩)] (rdb r A 56 c :: jcl g8 g7 g9 0 0 0 none 0 0 ++ K)
      (Pan (fun _ : Rg => True) (fun _ => stopC 6) (fun p => rdb r p.A p.n p.c :: K)) := by
  refine fn_enter Tryz.func102 rfl _ Tryz.ntmps102 (by simp) [(0, .pointer (some ⟨r, 0, none⟩)), (1, .pointer (some ⟨g8, 0, none⟩)), (2, .pointer (some ⟨g7, 0, none⟩)), (3, .pointer (some ⟨g9, 0, none⟩))] (args_of (by simp)) ?_
  have hl := h.len
  have v0 : 0 ≤ leV (d.take 3) ∧ leV (d.take 3) < 16777216 := by simpa [hl] using leV_lt (h.okb.take 3)
  have v1 : 0 ≤ leV ((d.drop 3).take 3) ∧ leV ((d.drop 3).take 3) < 16777216 := by simpa [hl] using leV_lt ((h.okb.drop 3).take 3)
  have v2 : 0 ≤ leV ((d.drop 6).take 2) ∧ leV ((d.drop 6).take 2) < 65536 := by simpa [hl] using leV_lt ((h.okb.drop 6).take 2)
  show SC _ _ _ _ _ (rdb r A 56 c :: blk g8 3 [.int .i64 0] :: blk g7 162 [.int .i64 0, .slice none 0 0] :: blk g9 3 [.int .i64 0] :: K)
  refine go_Jt ?_
  refine sl_call rfl rfl (by kernel_rfl) rfl (by exact sub_) (rUint (K := blk g8 3 [.int .i64 0] :: blk g7 162 [.int .i64 0, .slice none 0 0] :: blk g9 3 [.int .i64 0] :: K) (k := 3) (Sub.skip (Sub.skip (Sub.skip hz))) h (by decide) (by decide)) ?_
  rintro ⟨A1, n1, c1⟩ hq1
  replace hq1 : Rd Z A1 n1 c1 (d.drop 3) := hq1
  have e1 := hq1.len
  rw [List.length_drop, hl] at e1
  refine go_Jt ?_
  refine sl_call rfl rfl (by kernel_rfl) rfl (by exact sub_) (rUint (K := blk g8 3 [.int .i64 (leV (d.take 3))] :: blk g7 162 [.int .i64 0, .slice none 0 0] :: blk g9 3 [.int .i64 0] :: K) (k := 3) (Sub.skip (Sub.skip (Sub.skip hz))) hq1 (by decide) (by omega)) ?_
  rintro ⟨A2, n2, c2⟩ hq2
  replace hq2 : Rd Z A2 n2 c2 ((d.drop 3).drop 3) := hq2
  rw [List.drop_drop] at hq2
  replace hq2 : Rd Z A2 n2 c2 (d.drop 6) := hq2
  have e2 := hq2.len
  rw [List.length_drop, hl] at e2
  refine go_Jt ?_
  refine sl_die rfl rfl (by kernel_rfl) (by exact sub_) (rCount_range (K := blk g8 3 [.int .i64 (leV (d.take 3))] :: blk g7 162 [.int .i64 (leV ((d.drop 3).take 3)), .slice none 0 0] :: blk g9 3 [.int .i64 0] :: K) (k := 2) (Sub.skip (Sub.skip (Sub.skip hz))) hq2 (by decide) (by omega) hs) ?_
  rintro ⟨A3, n3, c3⟩ -
  refine go_Jt ?_
  exact se_panic ⟨A3, n3, c3⟩ trivial (by exact sub_)
set_option maxRecDepth 100000 in
set_option maxHeartbeats 4000000 in
theorem sum_ok {K : List Fa} {A : Option Addr} {n c : Nat} {xs : List Int} (h : Rd K A n c xs) (hn : 8 ≤ n) :
    Fn Tryz.prog 101 #[.slice A n c] K (Ret (fun _ : Option Addr × Nat => True) (fun p => .slice p.1 8 p.2) (fun p => own 5 1 p.1 8 p.2 (bytes (hashL 9 (xs.drop 8) 8)) :: K)) := by
  refine fn_enter Tryz.func101 rfl _ Tryz.ntmps101 (by simp) [(0, .slice A n c)] (args_of (by simp)) ?_
  have hle := h.le
  have h8 := h.next hn
  refine go_Jt ?_
  refine sl_call rfl rfl (by kernel_rfl) rfl (by exact sub_) (hash_ok (n := 8) (by decide) (by decide) (by decide) h8.vw h8.okb h8.len h8.big) ?_
  rintro ⟨A2, c2⟩ -
  refine go_Jt ?_
  exact se_ret1 (A2, c2) trivial rfl rfl (by exact sub_)
theorem Rd.front {Z : List Fa} {A : Option Addr} {n c m : Nat} {rest : List Int} (h : Rd Z A n c rest) (hm : m ≤ n) : Rd Z A m c (rest.take m) :=
  ⟨fun w hw => by have h1 := (h.vw w hw).take (k := m) hm; rwa [bytes_take] at h1, Nat.le_trans hm h.le, Nat.le_trans hm h.big, h.cb, by rw [List.length_take, h.len]; omega, h.okb.take m⟩
theorem Rd.mono {Z Z' : List Fa} {A : Option Addr} {n c : Nat} {rest : List Int} (h : Rd Z A n c rest) (hs : Sub Z' Z) : Rd Z' A n c rest := ⟨h.vw.mono hs, h.le, h.big, h.cb, h.len, h.okb⟩
theorem saysL_no1 {d : List Int} {k : Nat} (h : 48 < leV ((d.drop 6).take 2)) : saysL d k = none := if_pos h
theorem saysL_no2 {d : List Int} {k : Nat} (h : ¬ 48 < leV ((d.drop 6).take 2)) (h2 : leV (d.take 3) ≠ k) : saysL d k = none := (if_neg h).trans (if_pos h2)
theorem saysL_eq {d : List Int} {k s f : Nat} (h : ¬ 48 < leV ((d.drop 6).take 2)) (h2 : leV (d.take 3) = k) (hs : leV ((d.drop 6).take 2) = s) (hf : leV ((d.drop 3).take 3) = f) :
    saysL d k = if (((d.drop 8).take 48).drop s).all (· == 0) then some (f, ((d.drop 8).take 48).take s) else none := by
  refine (if_neg h).trans ((if_neg (fun hn => hn h2)).trans ?_)
  rw [hs, hf, Int.toNat_natCast, Int.toNat_natCast]
def jz : List Value := [.int .i64 0, .slice none 0 0]
theorem build_jz (W : World) : (Instr.build 162 #[]).run Tryz.prog W = .ok (.agg jz.toArray) W := by kernel_rfl
theorem jz_one : ∀ v ∈ jz, v.oneCell' = true := by decide
theorem call_take1 : ∀ args w, (callFunc 102 args).run Tryz.prog w = .ok (.enter 102 args) w := fun args w => by kernel_rfl
/-- What take answers. -/
def TkA (K : List Fa) : Option (Nat × List Int) → Ending → World → Prop
  | some (f, p) => Ret (fun _ : Option Addr × Nat => True) (fun q => .tuple #[.agg #[.int .i64 f, .slice q.1 p.length q.2], .bool true]) (fun q => u8o q.1 q.2 p :: K)
  | none => Ret (fun _ : Unit => True) (fun _ => .tuple #[.agg jz.toArray, .bool false]) (fun _ => K)
theorem TkA_no {K : List Fa} : TkA K none = Ret (fun _ : Unit => True) (fun _ => .tuple #[.agg jz.toArray, .bool false]) (fun _ => K) := rfl
theorem TkA_yes {K : List Fa} {f : Nat} {p : List Int} : TkA K (some (f, p)) = Ret (fun _ : Option Addr × Nat => True) (fun q => .tuple #[.agg #[.int .i64 f, .slice q.1 p.length q.2], .bool true]) (fun q => u8o q.1 q.2 p :: K) := rfl
set_option maxRecDepth 100000 in
set_option maxHeartbeats 1000000 in
theorem take_ok {K : List Fa} {A : Option Addr} {n c k : Nat} {bs : List Int} (h : Rd K A n c bs) (hk : k ≤ 1000000000000) :
    Fn Tryz.prog 75 #[.slice A n c, .int .i64 k] K (TkA K (takeL bs k)) := by
  refine fn_enter Tryz.func75 rfl _ Tryz.ntmps75 (by simp) [(0, .slice A n c), (1, .int .i64 k)] (args_of (by simp)) ?_
  have hle := h.le
  have hbig := h.big
  have hlen := h.len
  by_cases h1 : n < (k + 1) * 64
  · rw [show takeL bs k = none from if_pos (by omega), TkA_no]
    refine go_Jt ?_
    refine sl_alloc rfl rfl rfl ?_; intro g4
    refine go_Jt ?_
    refine sl_pu (pu_build (v := .agg jz.toArray) rfl build_jz) rfl ?_
    refine sl_store_whole (cl := jz) rfl (by exact pick_) rfl rfl rfl jz_one ?_
    refine go_Jt ?_
    exact se_ret_ct () trivial rfl rfl (by exact at_) rfl rfl rfl rfl rfl (by exact sub_)
  have hx : Rd K (cutA A c (k * 64) 1) 64 (c - k * 64) (cutL bs k) := (h.next (k := k * 64) (by omega)).front (m := 64) (by omega)
  have htk : takeL bs k = if hashL 9 ((cutL bs k).drop 8) 8 ≠ (cutL bs k).take 8 then none else saysL ((cutL bs k).drop 8) k := if_neg (by omega)
  rw [htk]
  clear htk
  have e64 : k * 64 + 64 - k * 64 = 64 := by omega
  refine go_Jt ?_
  refine sl_alloc rfl rfl rfl ?_; intro g4
  refine go_Jt ?_
  rw [show ((k : Int) * 64).toNat = k * 64 by omega, show ((k : Int) * 64 + 64).toNat = k * 64 + 64 by omega, e64]
  generalize cutA A c (k * 64) 1 = B at hx ⊢
  generalize c - k * 64 = cb at hx ⊢
  generalize cutL bs k = xs at hx ⊢
  clear h hle hbig hlen h1 e64
  have hle := hx.le
  have hlen := hx.len
  have hh := hashL_ok 9 (xs.drop 8) 8
  refine sc_join (fun _ : Unit => [(0, .slice B 64 cb), (1, .int .i64 k), (4, .pointer (some ⟨g4, 0, none⟩)), (32, .bool (!decide (hashL 9 (xs.drop 8) 8 = xs.take 8)))]) (fun _ => blk g4 162 jz :: K) (fun _ => True) ?_ ?_
  · refine sd_drawn (S2 (K) []) (fun _ => true) (by kernel_rfl) 7 rfl ?_
    refine sd_yes2 0 rfl (by exact gd_) (by kernel_rfl) (by kernel_rfl) (by exact nop_) (PuI.all2 (by exact pv_Jt)) rfl (fun w hw => ⟨hw.sub (by exact sub_), by exact all_ hw⟩) ?_
    refine sd_yes2 3 rfl (by exact gd_) (by kernel_rfl) (by kernel_rfl) (by exact nop_) (PuI.all2 (by exact pv_Jt)) rfl (fun w hw => ⟨hw.sub (by exact sub_), by exact all_ hw⟩) ?_
    refine sd_yes2 4 rfl (by exact gd_) (by kernel_rfl) (by kernel_rfl) (by exact nop_) (pu_slice_hn (j := 8) rfl rfl rfl rfl rfl (by omega)) rfl (fun w hw => ⟨hw.sub (by exact sub_), by exact all_ hw⟩) ?_
    refine sd_yes2 5 rfl (by exact gd_) (by kernel_rfl) (by kernel_rfl) (by exact nop_) (pu_str (bs := xs.take 8) rfl rfl rfl rfl (fun W hW => (hx.front (m := 8) (by omega)).vw W hW.1)) rfl (fun w hw => ⟨hw.sub (by exact sub_), by exact all_ hw⟩) ?_
    refine sd_one 1 (by kernel_rfl) (sa_sl 1 rfl ?_)
    refine sl_call rfl rfl (by kernel_rfl) rfl Sub.refl (sum_ok (hx.mono (by exact sub_)) (by omega)) ?_
    rintro ⟨A1, c1⟩ -
    refine sl_nil ?_
    refine se_sd (fun _ w hw => ⟨hw.sub (by exact sub_), by exact all_ hw⟩) ?_
    refine sd_one 2 (by kernel_rfl) (sa_sl 2 rfl ?_)
    refine sl_pu (pu_strv (Vw.of_own (e := 5) (c := c1) (by exact at_)) rfl rfl rfl rfl) rfl ?_
    refine sl_nil ?_
    refine se_sd (fun _ w hw => ⟨hw.sub (by exact sub_), by exact all_ hw⟩) ?_
    refine sd_yes2 6 rfl (by exact gd_) (by kernel_rfl) (by kernel_rfl) (by exact nop_) (PuI.all2 (by exact pv_Jt)) rfl (fun w hw => ⟨hw.sub (by exact sub_), by exact all_ hw⟩) ?_
    refine sd_done (by kernel_rfl) ?_
    rw [strs_dec hh.2 (hx.okb.take 8)]
    exact se_mid () (by exact has_) (by exact sub_) trivial
  rintro _ -
  by_cases h2 : hashL 9 (xs.drop 8) 8 ≠ xs.take 8
  · rw [if_pos h2, TkA_no, decide_eq_false h2]
    refine go_Jt ?_
    refine sl_pu (pu_build (v := .agg jz.toArray) rfl build_jz) rfl ?_
    refine sl_store_whole (cl := jz) rfl (by exact pick_) rfl rfl rfl jz_one ?_
    refine go_Jt ?_
    exact se_ret_ct () trivial rfl rfl (by exact at_) rfl rfl rfl rfl rfl (by exact sub_)
  rw [if_neg h2, decide_eq_true (Classical.not_not.1 h2)]
  have hd : Rd K (cutA B cb 8 1) 56 (cb - 8) (xs.drop 8) := hx.next (k := 8) (by omega)
  clear h2 hh
  generalize xs.drop 8 = d at hd ⊢
  have hdl := hd.len
  refine go_Jt ?_
  refine sl_alloc rfl rfl rfl ?_; intro g7
  refine go_Jt ?_
  refine sl_alloc rfl rfl rfl ?_; intro g8
  refine go_Jt ?_
  refine sl_alloc rfl rfl rfl ?_; intro g9
  refine go_Jt ?_
  by_cases h3 : 48 < leV ((d.drop 6).take 2)
  · rw [saysL_no1 h3, TkA_no]
    refine sl_call rfl rfl (by kernel_rfl) rfl (by exact sub_) (read_die (α := Unit) (x := 6) (φ := fun _ => True) (H := fun _ => blk g4 162 jz :: K) (K := blk g8 3 [.int .i64 0] :: blk g7 162 [.int .i64 0, .slice none 0 0] :: blk g9 3 [.int .i64 0] :: blk g4 162 jz :: K) (Z := K) call_take1 (Sub.skip (Sub.skip (Sub.skip (Sub.skip Sub.refl)))) hd (fun r f0 => ?_)) ?_
    · have h := take1_die (r := r) (g8 := g8) (g7 := g7) (g9 := g9) (K := f0 :: blk g4 162 jz :: K) (Z := K) (Sub.skip (Sub.skip Sub.refl)) hd h3
      refine (h.sub (by show Sub _ (rdb r _ _ _ :: blk g8 3 [.int .i64 0] :: blk g7 162 [.int .i64 0, .slice none 0 0] :: blk g9 3 [.int .i64 0] :: f0 :: blk g4 162 jz :: K); exact sub_)).mono ?_
      rintro e w ⟨q, -, he, hs⟩
      exact ⟨((), q), trivial, he, hs⟩
    rintro _ -
    refine go_Jt ?_
    refine sl_pu (pu_build (v := .agg jz.toArray) rfl build_jz) rfl ?_
    refine sl_store_whole (cl := jz) rfl (by exact pick_) rfl rfl rfl jz_one ?_
    refine go_Jt ?_
    exact se_ret_ct () trivial rfl rfl (by exact at_) rfl rfl rfl rfl rfl (by exact sub_)
  refine sl_call rfl rfl (by kernel_rfl) rfl (by exact sub_) (read_ok (α := Option Addr × Nat) (rest := []) (φ := fun _ => True) (H := fun p => own 5 1 p.1 48 p.2 (bytes ((d.drop 8).take 48)) :: blk g8 3 [.int .i64 (leV (d.take 3))] :: blk g7 162 [.int .i64 (leV ((d.drop 3).take 3)), .slice p.1 48 p.2] :: blk g9 3 [.int .i64 (leV ((d.drop 6).take 2))] :: blk g4 162 jz :: K) (K := blk g8 3 [.int .i64 0] :: blk g7 162 [.int .i64 0, .slice none 0 0] :: blk g9 3 [.int .i64 0] :: blk g4 162 jz :: K) (Z := K) call_take1 (Sub.skip (Sub.skip (Sub.skip (Sub.skip Sub.refl)))) hd (fun p => Sub.skip (Sub.skip (Sub.skip (Sub.skip (Sub.skip Sub.refl))))) (fun r f0 => ?_)) ?_
  · have h := take1_ok (r := r) (g8 := g8) (g7 := g7) (g9 := g9) (K := f0 :: blk g4 162 jz :: K) (Z := K) (Sub.skip (Sub.skip Sub.refl)) hd (by omega)
    refine (h.sub (by show Sub _ (rdb r _ _ _ :: blk g8 3 [.int .i64 0] :: blk g7 162 [.int .i64 0, .slice none 0 0] :: blk g9 3 [.int .i64 0] :: f0 :: blk g4 162 jz :: K); exact sub_)).mono ?_
    rintro e w ⟨q, hq, he, hs⟩
    refine ⟨q, ⟨trivial, hq⟩, he, hs.sub ?_⟩
    show Sub (rdb r q.2.A q.2.n q.2.c :: own 5 1 q.1.1 48 q.1.2 (bytes ((d.drop 8).take 48)) :: blk g8 3 [.int .i64 (leV (d.take 3))] :: blk g7 162 [.int .i64 (leV ((d.drop 3).take 3)), .slice q.1.1 48 q.1.2] :: blk g9 3 [.int .i64 (leV ((d.drop 6).take 2))] :: f0 :: blk g4 162 jz :: K) _
    exact sub_
  rintro ⟨A4, c4⟩ -
  rw [show endCode [] = 0 from rfl]
  obtain ⟨s, hs⟩ : ∃ s : Nat, leV ((d.drop 6).take 2) = s := ⟨_, (Int.toNat_of_nonneg (leV_lt ((hd.okb.drop 6).take 2)).1).symm⟩
  obtain ⟨f, hf⟩ : ∃ f : Nat, leV ((d.drop 3).take 3) = f := ⟨_, (Int.toNat_of_nonneg (leV_lt ((hd.okb.drop 3).take 3)).1).symm⟩
  have hs48 : s ≤ 48 := by omega
  by_cases h5 : leV (d.take 3) ≠ k
  · rw [saysL_no2 h3 h5, TkA_no]
    generalize leV (d.take 3) = sd at h5 ⊢
    refine go_Jt ?_
    refine sl_pu (pu_build (v := .agg jz.toArray) rfl build_jz) rfl ?_
    refine sl_store_whole (cl := jz) rfl (by exact pick_) rfl rfl rfl jz_one ?_
    refine go_Jt ?_
    exact se_ret_ct () trivial rfl rfl (by exact at_) rfl rfl rfl rfl rfl (by exact sub_)
  replace h5 := Classical.not_not.1 h5
  rw [saysL_eq h3 h5 hs hf, h5, hs, hf]
  have hpl : ((d.drop 8).take 48).length = 48 := by rw [List.length_take, List.length_drop, hdl]; decide
  have hpb := (hd.okb.drop 8).take 48
  generalize (d.drop 8).take 48 = part at hpl hpb ⊢
  clear h3 h5 hs hf hd hx
  refine sl_know (fun w hw => (own_len (e := 5) (size := 1) (A := A4) hw (by exact at_)).2) ?_
  rintro ⟨l1, l2⟩
  have hr : Rd [own 5 1 A4 48 c4 (bytes part)] A4 48 c4 part := ⟨Vw.of_own .here, l1, by decide, l2, hpl, hpb⟩
  have hq := hr.next hs48
  have hql := hq.len
  refine go_Jt ?_
  generalize cutA A4 c4 s 1 = B2 at hq ⊢
  refine sc_for (fun j : Nat => [(4, .pointer (some ⟨g4, 0, none⟩)), (7, .pointer (some ⟨g7, 0, none⟩)), (9, .pointer (some ⟨g9, 0, none⟩)), (49, .slice B2 (48 - s) (c4 - s)), (50, .int .i64 ((48 - s : Nat) : Int)), (51, .int .i64 j)]) (fun _ => own 5 1 A4 48 c4 (bytes part) :: blk g7 162 [.int .i64 f, .slice A4 48 c4] :: blk g9 3 [.int .i64 s] :: blk g4 162 jz :: K) (fun j => j ≤ 48 - s ∧ ((part.drop s).take j).all (· == 0) = true) (fun j => 48 - s - j) 0 (by exact has_) (by exact sub_) ⟨Nat.zero_le _, rfl⟩ ?_
  rintro j ⟨hj, hall⟩
  by_cases hlt : j < 48 - s
  · have hlt' : j < (part.drop s).length := by omega
    have hb := hq.okb _ (List.getElem_mem hlt')
    refine sc_know (vw_form (hq.vw.mono (L' := own 5 1 A4 48 c4 (bytes part) :: blk g7 162 [.int .i64 f, .slice A4 48 c4] :: blk g9 3 [.int .i64 s] :: blk g4 162 jz :: K) (by exact sub_)) (by omega)) ?_
    rintro ⟨ad, rfl⟩
    refine go_Jt ?_
    refine sl_pu (pu_ldr (hq.vw.mono (by exact sub_)) (by omega) rfl rfl (bytes_nth1 hlt')) rfl ?_
    have hsn := take_snoc hlt'
    by_cases hz : (part.drop s)[j] = 0
    · rw [hz] at hsn ⊢
      refine go_Jt ?_
      exact se_round (j + 1) (by exact has_) (by exact sub_) ⟨hlt, by rw [hsn, List.all_append, hall]; rfl⟩ (by omega)
    · have hno : (part.drop s).all (· == 0) = false := by
        rw [Bool.eq_false_iff]
        intro hc
        rw [List.all_eq_true] at hc
        exact hz (by simpa using hc _ (List.getElem_mem hlt'))
      rw [hno, if_neg Bool.false_ne_true, TkA_no]
      generalize (part.drop s)[j] = z at hb hz ⊢
      refine go_Jt ?_
      refine sl_pu (pu_build (v := .agg jz.toArray) rfl build_jz) rfl ?_
      refine sl_store_whole (cl := jz) rfl (by exact pick_) rfl rfl rfl jz_one ?_
      refine go_Jt ?_
      exact se_ret_ct () trivial rfl rfl (by exact at_) rfl rfl rfl rfl rfl (by exact sub_)
  obtain rfl : j = 48 - s := by omega
  rw [List.take_of_length_le (by omega)] at hall
  rw [hall, if_pos rfl, TkA_yes]
  refine go_Jt ?_
  try refine sl_store_whole (cs := jz) (cl := [.int .i64 f, .slice A4 s c4]) rfl (by exact pick_) rfl rfl rfl jc_one ?_
  refine go_Jt ?_
  refine se_ent (L' := own 5 1 A4 s c4 ((bytes part).take (s * 1)) :: blk g4 162 [.int .i64 f, .slice A4 s c4] :: K) (fun w hw => (sep_less (e := 5) (size := 1) (A := A4) (k := 48) (c := c4) (xs := bytes part) (m := s) (L' := blk g4 162 [.int .i64 f, .slice A4 s c4] :: K) (hw.sub (by exact sub_)) .here hs48)) ?_
  rw [bytes_take]
  have e1 : (part.take s).length = s := by rw [List.length_take, hpl]; omega
  refine se_ret_ct (A4, c4) trivial rfl rfl (by exact at_) rfl rfl rfl rfl ?_ ?_
  · rw [e1]
  · show Sub _ (own 5 1 A4 (part.take s).length c4 (bytes (part.take s)) :: K)
    rw [e1]
    exact sub_
end Go.Proofs.YtocaabnbmcpjmaaGreatDoor
