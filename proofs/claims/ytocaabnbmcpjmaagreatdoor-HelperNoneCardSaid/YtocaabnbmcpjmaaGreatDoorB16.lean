/- Several texts of one claim, one behind the other (Ia, Mgd, Mg1, Mg2, Mg3, Mg4). -/
import Derived.Test.YtocaabnbmcpjmaaGreatDoorB15
import Derived.Test.YtocaabnbmcpjmaaGreatDoorB01
import Derived.Test.YtocaabnbmcpjmaaGreatDoorB05
import Derived.Test.YtocaabnbmcpjmaaGreatDoorB09
set_option linter.unusedVariables false
set_option linter.unusedSimpArgs false
/- Package helper: setups; a helper made. -/
namespace Go.Proofs.YtocaabnbmcpjmaaGreatDoor
open Go.RowKit Go.MapKept
attribute [local irreducible] Go.Calls Go.Exit.then Go.Exit.inBlock Go.bodyPost Go.Code.wp Go.wpList takeL recordL hashL recL allL
/-- A setup. -/
structure Su where
  t : Ta
  r : Rl
  key : Id
  lim : Int
  ah : Int
def Su.c (x : Su) : List Value := x.t.c ++ (x.r.c ++ (bytes x.key.l ++ [.int .i64 x.lim, .int .u64 x.ah]))
theorem Su.len (x : Su) : x.c.length = 29 := by
  unfold Su.c
  rw [List.length_append, List.length_append, List.length_append, bytes_length, x.key.len]
  rfl
theorem Su.mt (x : Su) : Mid x.c 0 x.t.c := Mid.head
theorem Su.mr (x : Su) : Mid x.c 8 x.r.c := by
  intro j v hj
  have h3 : j < 3 := (List.getElem?_eq_some_iff.1 hj).1
  unfold Su.c
  rw [List.getElem?_append_right (show x.t.c.length ≤ 8 + j by rw [Ta.len]; omega), Ta.len, show 8 + j - 8 = j by omega, List.getElem?_append_left (by rw [Rl.len]; exact h3)]
  exact hj
theorem Su.mkey (x : Su) : Mid x.c 11 (bytes x.key.l) := by
  intro j v hj
  have h3 : j < (bytes x.key.l).length := (List.getElem?_eq_some_iff.1 hj).1
  unfold Su.c
  rw [List.getElem?_append_right (show x.t.c.length ≤ 11 + j by rw [Ta.len]; omega), Ta.len, List.getElem?_append_right (show x.r.c.length ≤ 11 + j - 8 by rw [Rl.len]; omega), Rl.len, show 11 + j - 8 - 3 = j by omega, List.getElem?_append_left h3]
  exact hj
theorem Su.n27 (x : Su) : nth x.c 27 = some (.int .i64 x.lim) := by
  rw [nth_eq, Su.c, List.getElem?_append_right (show x.t.c.length ≤ 27 by rw [Ta.len]; decide), Ta.len, List.getElem?_append_right (show x.r.c.length ≤ 27 - 8 by rw [Rl.len]; decide), Rl.len, List.getElem?_append_right (show (bytes x.key.l).length ≤ 27 - 8 - 3 by rw [bytes_length, x.key.len]; decide), bytes_length, x.key.len]
  rfl
theorem Su.n28 (x : Su) : nth x.c 28 = some (.int .u64 x.ah) := by
  rw [nth_eq, Su.c, List.getElem?_append_right (show x.t.c.length ≤ 28 by rw [Ta.len]; decide), Ta.len, List.getElem?_append_right (show x.r.c.length ≤ 28 - 8 by rw [Rl.len]; decide), Rl.len, List.getElem?_append_right (show (bytes x.key.l).length ≤ 28 - 8 - 3 by rw [bytes_length, x.key.len]; decide), bytes_length, x.key.len]
  rfl
theorem Su.one (x : Su) : ∀ v ∈ x.c, v.oneCell' = true := by
  intro v hv
  unfold Su.c at hv
  rcases List.mem_append.1 hv with e | e
  · exact x.t.one v e
  · rcases List.mem_append.1 e with e | e
    · exact x.r.one v e
    · rcases List.mem_append.1 e with e | e
      · exact one_bytes _ v e
      · simp only [List.mem_cons, List.not_mem_nil, or_false] at e
        rcases e with rfl | rfl <;> rfl
def Su.err (x : Su) : Int := if rErr x.r x.t ≠ 0 then rErr x.r x.t else if x.lim < 1 ∨ 256 < x.lim ∨ 1099511627776 < x.ah then 6 else 0
/-- A helper. -/
def hpC (x : Su) (gx gk : Nat) : List Value := x.c ++ [.pointer (some ⟨gx, 0, none⟩), .pointer (some ⟨gk, 0, none⟩)]
theorem hpC_len {x : Su} {gx gk : Nat} : (hpC x gx gk).length = 31 := by
  unfold hpC
  rw [List.length_append, x.len]
  rfl
theorem hpC_one {x : Su} {gx gk : Nat} : ∀ v ∈ hpC x gx gk, v.oneCell' = true := by
  intro v hv
  rcases List.mem_append.1 hv with h | h
  · exact x.one v h
  · simp only [List.mem_cons, List.not_mem_nil, or_false] at h
    rcases h with rfl | rfl <;> rfl
theorem hpC_mx {x : Su} {gx gk : Nat} : Mid (hpC x gx gk) 0 x.c := Mid.head
theorem hpC_mt {x : Su} {gx gk : Nat} : Mid (hpC x gx gk) 0 x.t.c := by
  unfold hpC Su.c
  rw [List.append_assoc]
  exact Mid.head
theorem hpC_29 {x : Su} {gx gk : Nat} : nth (hpC x gx gk) 29 = some (.pointer (some ⟨gx, 0, none⟩)) := by
  rw [nth_eq, hpC, List.getElem?_append_right (by rw [x.len]; decide), x.len]
  rfl
theorem hpC_30 {x : Su} {gx gk : Nat} : nth (hpC x gx gk) 30 = some (.pointer (some ⟨gk, 0, none⟩)) := by
  rw [nth_eq, hpC, List.getElem?_append_right (by rw [x.len]; decide), x.len]
  rfl
abbrev hpB (g : Nat) (x : Su) (gx gk : Nat) : Fa := blk g 74 (hpC x gx gk)
/-- A source that hashes. -/
def xoC : List Value := [.bool false, .slice none 0 0, .int .i64 0, .map none, .slice none 0 0]
abbrev xoB (g : Nat) : Fa := blk g 78 xoC
theorem list16v {cs : List Value} (h : cs.length = 16) : ∃ a0 a1 a2 a3 a4 a5 a6 a7 a8 a9 a10 a11 a12 a13 a14 a15, cs = [a0, a1, a2, a3, a4, a5, a6, a7, a8, a9, a10, a11, a12, a13, a14, a15] := list16t h
theorem build_hp (x : Su) (gx gk : Nat) (W : World) : (Instr.build 74 #[(0, .agg x.c.toArray), (1, .pointer (some ⟨gx, 0, none⟩)), (2, .pointer (some ⟨gk, 0, none⟩))]).run Tryz.prog W = .ok (.agg (hpC x gx gk).toArray) W := by
  obtain ⟨a0, a1, a2, a3, a4, a5, a6, a7, a8, a9, a10, a11, a12, a13, a14, a15, h⟩ := list16v (cs := bytes x.key.l) (by rw [bytes_length, x.key.len])
  unfold hpC Su.c
  rw [h]
  kernel_rfl
theorem nth_Ia {φ : Prop} (h : φ := by (first | rfl | first | rfl | exact Su.n27 _ | exact Su.n28 _ | exact hpC_29 | exact hpC_30)) : φ := h
theorem mid_Ia {φ : Prop} (h : φ := by (first | first | exact Su.mt _ | exact Su.mr _ | exact Su.mkey _ | exact hpC_mx | exact hpC_mt | exact Mid.all | exact Mid.all | exact Mid.head)) : φ := h
theorem sz_Ia {φ : Prop} (h : φ := by (first | rfl | ((try simp only [Su.len, hpC_len, bytes_length, Id.len]); (first | done | rfl); first | done | fail))) : φ := h
theorem one_Ia {φ : Prop} (h : φ := by (first | assumption | exact first | exact Su.one _ | exact hpC_one | exact Ta.one _ | exact Rl.one _ | exact one_bytes _ | (simp only [List.mem_cons, List.not_mem_nil, or_false, forall_eq_or_imp, forall_eq]; decide) | exact one_bytes _ | (intro v hv; (repeat (rcases List.mem_cons.1 hv with rfl | hv; rfl)); cases hv))) : φ := h
theorem set_Ia {φ : Prop} (h : φ := by (first | (fail) | ((repeat (first | exact SetAt.here | apply SetAt.there)); first | done | fail))) : φ := h
theorem cl_Ia {φ : Prop} (h : φ := by first | rfl | exact .t | exact .f | exact .t (by omega) | exact .f (by omega) | exact .u | exact .i (by (first | exact .t (by omega) | exact .f (by omega) | exact .u | exact .i (by omega) | exact .v (by omega) | exact .b (by omega) | exact .w | rfl | omega)) | exact .v (by omega) | exact .b (by omega) | exact .q (by omega) | exact .w | exact .b (by exact at_) rfl (by exact nth_Ia) | exact .w (by exact at_) rfl rfl (by exact sz_Ia) | exact .s (by exact at_) (by exact mid_Ia) rfl rfl (by exact sz_Ia) | exact .z rfl rfl ⟨by kernel_rfl⟩ | exact .b rfl rfl ⟨by kernel_rfl⟩ | exact .a rfl rfl ⟨by kernel_rfl⟩ | exact .o rfl | exact .s | exact .n | exact .p rfl | exact .q rfl | exact .c rfl | exact .d rfl | exact .n rfl rfl (by omega) | exact .a rfl rfl (by omega) | exact .p rfl rfl (by omega) (by omega) | exact .y rfl rfl (by omega) (by omega) | exact .o (by exact at_) (by omega) rfl (by exact nth_Ia) | exact .m (by exact at_) (by omega) (by exact mid_Ia) rfl rfl (by exact sz_Ia) | exact .mlen (by exact at_) rfl | exact .t (by exact at_) rfl rfl (by first | exact True.intro | rfl) (by assumption) | exact .f (by exact at_) rfl rfl (by first | exact True.intro | rfl) (by assumption) rfl | exact .t1 (by exact at_) rfl rfl (by first | exact True.intro | rfl) (by assumption) | exact .f1 (by exact at_) rfl rfl (by first | exact True.intro | rfl) (by assumption) rfl | exact .tk (by exact at_) rfl (by assumption) (by assumption) | exact .fk (by exact at_) rfl (by assumption) (by assumption) rfl | exact .tk1 (by exact at_) rfl (by assumption) (by assumption) | exact .fk1 (by exact at_) rfl (by assumption) (by assumption) rfl | exact .r rfl rfl (by omega) (by omega) (by exact nth_Ia) rfl | exact .s rfl (by omega) (by assumption) | exact at_ | assumption | exact .r rfl rfl | exact .h rfl rfl rfl (by omega) | exact .l rfl rfl rfl (by omega) (by omega) | exact .g rfl rfl rfl rfl (by omega) (by omega) | exact .h rfl rfl (toN_ (by omega)) (by omega) | exact .l rfl rfl (toN_ (by omega)) (by omega) (by omega) | exact .g rfl rfl (toN_ (by omega)) (toN_ (by omega)) (by omega) (by omega) | exact .o (by decide) | exact .f (by decide) | exact .n (by omega) (by first | decide | (show _ ≤ ((64 : Nat) : Int); omega)) | (constructor; (repeat (first | exact .t (by omega) | exact .f (by omega) | exact .u | exact .i (by omega) | exact .v (by omega) | exact .b (by omega) | exact .w | rfl | omega)); first | done | fail) | omega | (show _ ≤ ((64 : Nat) : Int); omega)) : φ := h
theorem pv_Ia {φ : Prop} (h : φ := by constructor; (repeat exact cl_Ia); first | done | fail) : φ := h
theorem su_Ia {φ ψ : Prop} (k : ψ) (h : Hide ψ → φ := by (intro k; (first | refine sl_pu (PuI.sep (by exact pv_Ia)) rfl ?_ | refine sl_yes rfl rfl ?_ | refine sl_no rfl rfl rfl ?_ | refine sl_off rfl rfl rfl ?_ | (fail)); exact k.out)) : φ := h ⟨k⟩
theorem sto_Ia {φ ψ : Prop} (k : ψ) (h : Hide ψ → φ := by (intro k; (first | refine sl_store rfl (by exact pick_) rfl rfl (by kernel_rfl) (by exact set_Ia) ?_ | refine sl_store_whole rfl (by exact pick_) rfl (by exact sz_Ia) (by exact sz_Ia) (by exact one_Ia) ?_); exact k.out)) : φ := h ⟨k⟩
theorem go_Ia {φ ψ : Prop} (k : ψ) (h : Hide ψ → φ := by (intro k; (repeat (first | refine su_Ia ?_ | refine so_ ?_ | refine sto_Ia ?_)); exact k.out)) : φ := h ⟨k⟩
set_option maxRecDepth 100000 in
set_option maxHeartbeats 2000000 in
theorem hcheck_ok {K : List Fa} {x : Su} :
    Fn Tryz.prog 12 #[.agg x.c.toArray] K (Ret (fun _ : Unit => True) (fun _ => .int .i64 x.err) (fun _ => K)) := by
  refine fn_enter Tryz.func12 rfl _ Tryz.ntmps12 (by simp) [(0, .agg x.c.toArray)] (args_of (by simp)) ?_
  refine go_Ia ?_
  refine sl_box rfl rfl rfl ?_; intro g1
  refine go_Ia ?_
  refine sl_call rfl rfl (by kernel_rfl) rfl (by exact sub_) (rcheck_ok (r := x.r) (t := x.t)) ?_; rintro _ -
  by_cases he : rErr x.r x.t = 0
  · rw [show x.err = if x.lim < 1 ∨ 256 < x.lim ∨ 1099511627776 < x.ah then 6 else 0 by unfold Su.err; rw [if_neg (by rw [he]; decide)], he]
    by_cases h1 : x.lim < 1
    · rw [if_pos (.inl h1)]
      refine go_Ia ?_
      exact se_ret1 () trivial rfl rfl (by exact sub_)
    by_cases h2 : 256 < x.lim
    · rw [if_pos (.inr (.inl h2))]
      refine go_Ia ?_
      exact se_ret1 () trivial rfl rfl (by exact sub_)
    by_cases h3 : 1099511627776 < x.ah
    · rw [if_pos (.inr (.inr h3))]
      refine go_Ia ?_
      exact se_ret1 () trivial rfl rfl (by exact sub_)
    rw [if_neg (by omega)]
    refine go_Ia ?_
    exact se_ret1 () trivial rfl rfl (by exact sub_)
  · rw [show x.err = rErr x.r x.t by unfold Su.err; rw [if_pos he]]
    generalize rErr x.r x.t = e at he
    refine go_Ia ?_
    exact se_ret1 () trivial rfl rfl (by exact sub_)
set_option maxRecDepth 100000 in
theorem xreal_ok {K : List Fa} : Fn Tryz.prog 9 #[] K (Ret (fun _ : Nat => True) (fun g => .pointer (some ⟨g, 0, none⟩)) (fun g => xoB g :: K)) := by
  refine fn_enter Tryz.func9 rfl _ Tryz.ntmps9 (by simp) [] (args_of (by simp)) ?_
  refine go_Ia ?_
  refine sl_pu (pu_build (v := .agg xoC.toArray) rfl (fun W => by kernel_rfl)) rfl ?_
  refine go_Ia ?_
  refine sl_box rfl rfl rfl ?_; intro g1
  refine go_Ia ?_
  exact se_ret1 g1 trivial rfl rfl (by exact sub_)
theorem Su.err_r {x : Su} (h : x.err = 0) : rErr x.r x.t = 0 ∧ 1 ≤ x.lim ∧ x.lim ≤ 256 ∧ x.ah ≤ 1099511627776 := by
  unfold Su.err at h
  by_cases he : rErr x.r x.t = 0
  · rw [if_neg (by rw [he]; decide)] at h
    by_cases h1 : x.lim < 1 ∨ 256 < x.lim ∨ 1099511627776 < x.ah
    · rw [if_pos h1] at h
      cases h
    · exact ⟨he, by omega, by omega, by omega⟩
  · rw [if_pos he] at h
    exact (he h).elim
set_option maxRecDepth 100000 in
set_option maxHeartbeats 2000000 in
theorem hnew_ok {K : List Fa} {x : Su} {gx gd : Nat} {α : Type} {φ : α → Prop} {gk : α → Nat} {D : List Fa → List Fa} {H : α → List Fa → List Fa} (h : x.err = 0) (hD : ∀ f E, Sub (f :: D E) (D (f :: E))) (hH : ∀ a f E, Sub (H a (f :: E)) (f :: H a E))
    (ho : ∀ E : List Fa, Fn Tryz.prog 13 #[.pointer (some ⟨gd, 0, none⟩), .agg x.t.c.toArray, .agg x.r.c.toArray, .int .i64 x.lim] (D E) (Ret φ (fun a => .tuple #[.pointer (some ⟨gk a, 0, none⟩), .int .i64 0]) (fun a => H a E))) :
    Fn Tryz.prog 8 #[.agg x.c.toArray, .pointer (some ⟨gx, 0, none⟩), .pointer (some ⟨gd, 0, none⟩)] (D K) (Ret (fun z : α × Nat => φ z.1) (fun z => .tuple #[.pointer (some ⟨z.2, 0, none⟩), .int .i64 0]) (fun z => hpB z.2 x gx (gk z.1) :: H z.1 K)) := by
  refine fn_enter Tryz.func8 rfl _ Tryz.ntmps8 (by simp) [(0, .agg x.c.toArray), (1, .pointer (some ⟨gx, 0, none⟩)), (2, .pointer (some ⟨gd, 0, none⟩))] (args_of (by simp)) ?_
  refine go_Ia ?_
  refine sl_box rfl rfl rfl ?_; intro g1
  refine go_Ia ?_
  refine sl_call rfl rfl (by kernel_rfl) rfl Sub.refl hcheck_ok ?_
  rintro _ -
  rw [h]
  refine go_Ia ?_
  refine sl_call rfl rfl (by kernel_rfl) rfl (hD _ K) (ho (blk g1 34 x.c :: K)) ?_
  rintro a ha
  refine sl_sub (hH a _ K) ?_
  refine go_Ia ?_
  refine sl_pu (pu_build (v := .agg (hpC x gx (gk a)).toArray) rfl (fun W => build_hp x gx (gk a) W)) rfl ?_
  refine sl_box rfl rfl rfl ?_; intro g2
  refine go_Ia ?_
  exact se_ret2 (a, g2) ha rfl rfl rfl rfl (by exact sub_)
def iN0 (p : JO) (_ : Nat) (_ : Nat) (q : StM) : Prop := q.gj = p.gj ∧ q.ss = [] ∧ q.fs = [] ∧ q.ws = [] ∧ q.sd = [] ∧ q.life = 0
/-- A fresh disk. -/
theorem hop0 {gd md : Nat} {t : Ta} {r : Rl} {lim limd : Int} {K0 : List Fa} (hr : rErr r t = 0) (hl : 64 ≤ limd ∧ limd ≤ 1048576) : Fn Tryz.prog 13 #[.pointer (some ⟨gd, 0, none⟩), .agg t.c.toArray, .agg r.c.toArray, .int .i64 lim] (dB gd md limd :: dM md [] 0 :: dS [] :: K0)
    (Ret (fun x : OpR => ∃ p, iN0 p x.g 0 { x.q with life := 0 } ∧ x.q.life = 1 ∧ JFl [5 :: rcLife 1] 64 x.f) (fun x => .tuple #[.pointer (some ⟨x.g, 0, none⟩), .int .i64 0]) (fun x => sF x.g t r (min (max lim 0) 256) x.q (jC x.q.gj gd sj (cellsA [5 :: rcLife 1]) :: dB gd md limd :: dM md [x.f] x.ck :: dS [x.f] :: K0))) := by
  have hc0 : cellsA [] = 0 := by decide
  have h1 := open_ok (t := t) (r := r) (gd := gd) (md := md) (limd := limd) (K0 := K0) (σ := 0) (ls := []) (Ev := fun _ => False) (I := iN0) (Kp := KpN) (limit := lim) hr (by decide) (by rw [hc0]; omega) hl.2 jopen_new
    (fun p hp => ⟨.inl ⟨rfl, hp.2.1, hp.2.2, rfl⟩, by rw [hp.1]; rfl, fun h => absurd hp.1 h⟩)
    (fun p g q _ h1 h2 h3 h4 h5 h6 => ⟨h1, h2, h3, h4, h5, h6⟩)
    (fun p g j x q K' hp hx => by rw [hp.1] at hx; cases hx)
    (fun p g q h => ⟨h.1, by rw [h.2.2.2.2.2]; decide, by rw [h.2.2.2.2.2]; decide⟩)
  refine h1.say fun z w hz hw => ?_
  rcases z with p | x
  · exact hz.2.elim
  · obtain ⟨p, q, hp, hI, hq, hF⟩ := hz
    obtain ⟨i1, i2, i3, i4, i5, i6⟩ := hI
    have hl1 : x.q.life = 1 := by rw [hq, i6]; rfl
    rw [i6] at hF
    have hw2 : Sep w (sF x.g t r (min (max lim 0) 256) x.q (jC x.q.gj gd sj (cellsA ([] ++ [5 :: rcLife x.q.life])) :: dB gd md limd :: dM md [x.f] x.ck :: dS [x.f] :: K0)) := hw
    rw [hl1] at hw2
    refine ⟨x, ⟨p, ⟨by rw [hq]; exact i1, by rw [hq]; exact i2, by rw [hq]; exact i3, by rw [hq]; exact i4, by rw [hq]; exact i5, rfl⟩, hl1, hF⟩, rfl, hw2⟩
end Go.Proofs.YtocaabnbmcpjmaaGreatDoor
/- Messages as they are meant: whether one may be, as bytes. Plain laws, no program in sight. -/
namespace Go.Proofs.YtocaabnbmcpjmaaGreatDoor
open Go

structure Ent where
  id : List Int
  time : Int
  pub : List Int
  share : List Int
  code : Int
/-- What is wrong with an entry; 0: nothing. -/
def entCheck (e : Ent) : Int :=
  if 1099511627776 < e.time ∨ e.code < 0 ∨ 31 < e.code then 6 else if 65536 < (e.pub.length : Int) ∨ 65536 < (e.share.length : Int) then 4 else 0

structure Msg where
  kind : Int
  job : Int
  start : Int
  many : Int
  sum : List Int
  code : Int
  es : List Ent

/-- The first entry that may not be one. -/
def firstBad : List Ent → Int
  | [] => 0
  | e :: r => if entCheck e = 0 then firstBad r else entCheck e
def msgCheck (m : Msg) : Int :=
  if m.kind < 1 ∨ 7 < m.kind then 10
  else if 1099511627776 < m.job ∨ 1099511627776 < m.start ∨ m.many < 0 ∨ 256 < m.many ∨ m.code < 0 ∨ 31 < m.code then 6
  else if 256 < (m.es.length : Int) then 5
  else if (m.kind = 1 ∨ m.kind = 7) ∧ ¬ (m.es.length : Int) = 1 then 2
  else firstBad m.es

theorem firstBad_zero {es : List Ent} (h : firstBad es = 0) : ∀ e ∈ es, entCheck e = 0 := by
  induction es with
  | nil => simp
  | cons e r ih =>
    unfold firstBad at h
    by_cases hz : entCheck e = 0
    · rw [if_pos hz] at h
      intro x hx
      rcases List.mem_cons.1 hx with rfl | hx
      · exact hz
      · exact ih h x hx
    · rw [if_neg hz] at h
      exact absurd h hz
theorem entCheck_zero {e : Ent} (h : entCheck e = 0) : e.time ≤ 1099511627776 ∧ 0 ≤ e.code ∧ e.code ≤ 31 ∧ e.pub.length ≤ 65536 ∧ e.share.length ≤ 65536 := by
  unfold entCheck at h
  split at h
  · omega
  · split at h
    · omega
    · omega
theorem msgCheck_zero {m : Msg} (h : msgCheck m = 0) : 1 ≤ m.kind ∧ m.kind ≤ 7 ∧ m.job ≤ 1099511627776 ∧ m.start ≤ 1099511627776 ∧ 0 ≤ m.many ∧ m.many ≤ 256 ∧ 0 ≤ m.code ∧ m.code ≤ 31 ∧ m.es.length ≤ 256 ∧ ∀ e ∈ m.es, entCheck e = 0 := by
  unfold msgCheck at h
  split at h
  · omega
  split at h
  · omega
  split at h
  · omega
  split at h
  · omega
  refine ⟨by omega, by omega, by omega, by omega, by omega, by omega, by omega, by omega, by omega, firstBad_zero h⟩

end Go.Proofs.YtocaabnbmcpjmaaGreatDoor
/- Messages over facts: what they are, whether they are small. -/
namespace Go.Proofs.YtocaabnbmcpjmaaGreatDoor
open Go.RowKit
attribute [local irreducible] Go.Calls Go.Exit.then Go.Exit.inBlock Go.bodyPost Go.Code.wp Go.wpList

/-- An entry, with where its bytes lie: of the bytes fp the first n are its own. -/
structure En where
  id : Id
  t : Int
  A : Option Addr
  n : Nat
  c : Nat
  fp : List Int
  B : Option Addr
  m : Nat
  d : Nat
  fs : List Int
  code : Int
  tb : 0 ≤ t ∧ t ≤ 18446744073709551615
  cb : -9223372036854775808 ≤ code ∧ code ≤ 9223372036854775807
  nl : n ≤ fp.length
  ml : m ≤ fs.length
  pb : IsBytes fp
  sb : IsBytes fs
def En.pub (e : En) : List Int := e.fp.take e.n
def En.sh (e : En) : List Int := e.fs.take e.m
def En.ab (e : En) : Ent := ⟨e.id.l, e.t, e.pub, e.sh, e.code⟩
def En.cells (e : En) : List Value := bytes e.id.l ++ [.int .u64 e.t, .slice e.A e.n e.c, .slice e.B e.m e.d, .int .i64 e.code]
abbrev En.v (e : En) : Value := .agg e.cells.toArray
theorem En.len (e : En) : e.cells.length = 20 := by simp [En.cells, bytes, e.id.len]
theorem En.one (e : En) : ∀ v ∈ e.cells, v.oneCell' = true := by
  intro v hv
  rcases List.mem_append.1 hv with h | h
  · exact one_bytes _ v h
  · simp at h
    rcases h with h | h | h | h <;> subst h <;> rfl
theorem En.pl (e : En) : e.pub.length = e.n := by have := e.nl; simp [En.pub]; omega
theorem En.sl (e : En) : e.sh.length = e.m := by have := e.ml; simp [En.sh]; omega
section
variable (e : En)
theorem En.nt : nth e.cells 16 = some (.int .u64 e.t) := by
  rw [nth_eq, En.cells, List.getElem?_append_right (by simp [bytes, e.id.len])]
  simp [bytes, e.id.len]
theorem En.np : nth e.cells 17 = some (.slice e.A e.n e.c) := by
  rw [nth_eq, En.cells, List.getElem?_append_right (by simp [bytes, e.id.len])]
  simp [bytes, e.id.len]
theorem En.ns : nth e.cells 18 = some (.slice e.B e.m e.d) := by
  rw [nth_eq, En.cells, List.getElem?_append_right (by simp [bytes, e.id.len])]
  simp [bytes, e.id.len]
theorem En.nc : nth e.cells 19 = some (.int .i64 e.code) := by
  rw [nth_eq, En.cells, List.getElem?_append_right (by simp [bytes, e.id.len])]
  simp [bytes, e.id.len]
theorem En.mid : Mid e.cells 0 (bytes e.id.l) := Mid.head
end
/-- Its bytes as they read. -/
def EnR (w : World) (e : En) : Prop := Reads w 1 e.A e.n (bytes e.pub) ∧ Reads w 1 e.B e.m (bytes e.sh)
def EnsR (w : World) (A : Option Addr) (es : List En) : Prop := Reads w 20 A es.length (rows En.cells es) ∧ ∀ e ∈ es, EnR w e

/-- A message, with where its entries lie. -/
structure Me where
  kind : Int
  job : Int
  start : Int
  many : Int
  sum : Id
  code : Int
  A : Option Addr
  c : Nat
  es : List En
  kb : 0 ≤ kind ∧ kind ≤ 255
  jb : 0 ≤ job ∧ job ≤ 18446744073709551615
  stb : 0 ≤ start ∧ start ≤ 18446744073709551615
  mb : -9223372036854775808 ≤ many ∧ many ≤ 9223372036854775807
  cb : -9223372036854775808 ≤ code ∧ code ≤ 9223372036854775807
def mcs (kind job start many : Int) (sum : List Int) (code : Int) (A : Option Addr) (n c : Nat) : List Value := [.int .u8 kind, .int .u64 job, .int .u64 start, .int .i64 many] ++ bytes sum ++ [.int .i64 code, .slice A n c]
def Me.cells (m : Me) : List Value := mcs m.kind m.job m.start m.many m.sum.l m.code m.A m.es.length m.c
abbrev Me.v (m : Me) : Value := .agg m.cells.toArray
def Me.ab (m : Me) : Msg := ⟨m.kind, m.job, m.start, m.many, m.sum.l, m.code, m.es.map En.ab⟩
theorem mcs_len {kind job start many : Int} {sum : List Int} {code : Int} {A : Option Addr} {n c : Nat} (h : sum.length = 16) : (mcs kind job start many sum code A n c).length = 22 := by simp [mcs, bytes, h]
theorem Me.len (m : Me) : m.cells.length = 22 := mcs_len m.sum.len
theorem mcs_one {kind job start many : Int} {sum : List Int} {code : Int} {A : Option Addr} {n c : Nat} : ∀ v ∈ mcs kind job start many sum code A n c, v.oneCell' = true := by
  intro v hv
  rcases List.mem_append.1 hv with h | h
  · rcases List.mem_append.1 h with h | h
    · simp at h
      rcases h with h | h | h | h <;> subst h <;> rfl
    · exact one_bytes _ v h
  · simp at h
    rcases h with h | h <;> subst h <;> rfl
theorem Me.one (m : Me) : ∀ v ∈ m.cells, v.oneCell' = true := mcs_one
section
variable {kind job start many : Int} {sum : Id} {code : Int} {A : Option Addr} {n c : Nat}
theorem mcs_4 : nth (mcs kind job start many sum.l code A n c) 20 = some (.int .i64 code) := by
  rw [nth_eq, mcs, List.getElem?_append_right (by simp [bytes, sum.len])]
  simp [bytes, sum.len]
theorem mcs_5 : nth (mcs kind job start many sum.l code A n c) 21 = some (.slice A n c) := by
  rw [nth_eq, mcs, List.getElem?_append_right (by simp [bytes, sum.len])]
  simp [bytes, sum.len]
theorem mcs_mid : Mid (mcs kind job start many sum.l code A n c) 4 (bytes sum.l) := Mid.of_append rfl
end
section
variable (m : Me)
theorem Me.nd : nth m.cells 20 = some (.int .i64 m.code) := mcs_4
theorem Me.ne : nth m.cells 21 = some (.slice m.A m.es.length m.c) := mcs_5
theorem Me.mid : Mid m.cells 4 (bytes m.sum.l) := mcs_mid
end
abbrev msgB (g : Nat) (m : Me) : Fa := blk g 65 m.cells
/-- What it reads. -/
abbrev MeV (K : List Fa) (m : Me) : Prop := Vw K (fun w => EnsR w m.A m.es)
theorem MeV.row {K : List Fa} {m : Me} (h : MeV K m) : Vw K (fun w => Reads w 20 m.A m.es.length (rows En.cells m.es)) := fun w hw => (h w hw).1
theorem MeV.ent {K : List Fa} {m : Me} (h : MeV K m) {e : En} (he : e ∈ m.es) : Vw K (fun w => EnR w e) := fun w hw => (h w hw).2 e he

/-! small -/
end Go.Proofs.YtocaabnbmcpjmaaGreatDoor
/- Whether two messages are the same. -/
namespace Go.Proofs.YtocaabnbmcpjmaaGreatDoor
open Go.RowKit
attribute [local irreducible] Go.Calls Go.Exit.then Go.Exit.inBlock Go.bodyPost Go.Code.wp Go.wpList
instance : DecidableEq Ent := fun a b => if h : a.id = b.id ∧ a.time = b.time ∧ a.pub = b.pub ∧ a.share = b.share ∧ a.code = b.code then .isTrue (by cases a; cases b; simp at h; obtain ⟨h1, h2, h3, h4, h5⟩ := h; subst h1 h2 h3 h4 h5; rfl) else .isFalse (fun e => h (by subst e; exact ⟨rfl, rfl, rfl, rfl, rfl⟩))
/-! Two messages. -/
def sameH (a b : Me) : Prop := a.kind = b.kind ∧ a.job = b.job ∧ a.start = b.start ∧ a.many = b.many ∧ a.sum.l = b.sum.l ∧ a.code = b.code
instance (a b : Me) : Decidable (sameH a b) := by unfold sameH; infer_instance
end Go.Proofs.YtocaabnbmcpjmaaGreatDoor
/- A copy of a message. -/
namespace Go.Proofs.YtocaabnbmcpjmaaGreatDoor
open Go.RowKit
attribute [local irreducible] Go.Calls Go.Exit.then Go.Exit.inBlock Go.bodyPost Go.Code.wp Go.wpList
theorem list_en {cs : List Value} (h : cs.length = 20) : ∃ a0 a1 a2 a3 a4 a5 a6 a7 a8 a9 a10 a11 a12 a13 a14 a15 a16 a17 a18 a19, cs = [a0, a1, a2, a3, a4, a5, a6, a7, a8, a9, a10, a11, a12, a13, a14, a15, a16, a17, a18, a19] := by
  match cs, h with
  | [a0, a1, a2, a3, a4, a5, a6, a7, a8, a9, a10, a11, a12, a13, a14, a15, a16, a17, a18, a19], _ => exact ⟨a0, a1, a2, a3, a4, a5, a6, a7, a8, a9, a10, a11, a12, a13, a14, a15, a16, a17, a18, a19, rfl⟩
theorem buildN_en (a0 a1 a2 a3 a4 a5 a6 a7 a8 a9 a10 a11 a12 a13 a14 a15 a16 a17 a18 a19 : Value) (W : World) : (Instr.buildSlice 63 1 #[(0, .agg #[a0, a1, a2, a3, a4, a5, a6, a7, a8, a9, a10, a11, a12, a13, a14, a15, a16, a17, a18, a19])]).run Tryz.prog W = .ok (.slice (some ⟨W.heap.size, 0, none⟩) 1 1) (W.alloc (.cells #[a0, a1, a2, a3, a4, a5, a6, a7, a8, a9, a10, a11, a12, a13, a14, a15, a16, a17, a18, a19] 62)) := by kernel_rfl
theorem build_en {cs : List Value} (hl : cs.length = 20) (W : World) : (Instr.buildSlice 63 1 #[(0, .agg cs.toArray)]).run Tryz.prog W = .ok (.slice (some ⟨W.heap.size, 0, none⟩) 1 1) (W.alloc (.cells cs.toArray 62)) := by
  obtain ⟨a0, a1, a2, a3, a4, a5, a6, a7, a8, a9, a10, a11, a12, a13, a14, a15, a16, a17, a18, a19, rfl⟩ := list_en hl
  exact buildN_en _ _ _ _ _ _ _ _ _ _ _ _ _ _ _ _ _ _ _ _ W

def zm : List Value := mcs 0 0 0 0 (List.replicate 16 0) 0 none 0 0
theorem zm_len : zm.length = 22 := rfl
def zEn : Value := .agg (bytes (List.replicate 16 0) ++ [Value.int .u64 0, .slice none 0 0, .slice none 0 0, Value.int .i64 0]).toArray
theorem Tryz.infoEn : (Tryz.prog.info? 62).map (fun i => (i.zero, i.size, i.bytes)) = some (some zEn, 20, 80) := by kernel_rfl
section
variable (e : En) (A1 : Option Addr) (c1 : Nat) (A2 : Option Addr) (c2 : Nat)
end
end Go.Proofs.YtocaabnbmcpjmaaGreatDoor
/- The law's own encode. -/
namespace Go.Proofs.YtocaabnbmcpjmaaGreatDoor
open Go.RowKit
attribute [local irreducible] Go.Calls Go.Exit.then Go.Exit.inBlock Go.bodyPost Go.Code.wp Go.wpList
theorem Me.chk {m : Me} (h : msgCheck m.ab = 0) : 1 ≤ m.kind ∧ m.kind ≤ 7 ∧ m.job ≤ 1099511627776 ∧ m.start ≤ 1099511627776 ∧ 0 ≤ m.many ∧ m.many ≤ 256 ∧ 0 ≤ m.code ∧ m.code ≤ 31 ∧ m.es.length ≤ 256 ∧ ∀ e ∈ m.es, e.t ≤ 1099511627776 ∧ 0 ≤ e.code ∧ e.code ≤ 31 ∧ e.n ≤ 65536 ∧ e.m ≤ 65536 := by
  obtain ⟨z1, z2, z3, z4, z5, z6, z7, z8, z9, z10⟩ := msgCheck_zero h
  refine ⟨z1, z2, z3, z4, z5, z6, z7, z8, by simpa [Me.ab] using z9, fun e he => ?_⟩
  obtain ⟨h1, h2, h3, h4, h5⟩ := entCheck_zero (z10 e.ab (List.mem_map_of_mem he))
  exact ⟨h1, h2, h3, by rw [← e.pl]; exact h4, by rw [← e.sl]; exact h5⟩
end Go.Proofs.YtocaabnbmcpjmaaGreatDoor
