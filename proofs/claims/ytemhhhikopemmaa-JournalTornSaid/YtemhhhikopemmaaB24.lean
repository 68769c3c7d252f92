/- Several texts of one claim, one behind the other (Jy, Jv). -/
import Derived.Test.YtemhhhikopemmaaB22
import Derived.Test.YtemhhhikopemmaaB23
import Derived.Test.YtemhhhikopemmaaB18
/- A journal's states on a disk: Append, Sync, Open after a cut, Crash. -/
namespace Go.Proofs.Ytemhhhikopemmaa
open Go.RowKit Go.MapKept
attribute [local irreducible] Go.Calls Go.Exit.then Go.Exit.inBlock Go.bodyPost Go.Code.wp Go.wpList takeL recordL hashL recL allL
/-- The file of a journal with these records, synced so far at least. -/
def JFl (ls : List (List Int)) (σ : Nat) (f : DF) : Prop := f.s = sj ∧ f.l = allL ls ∧ f.sy ≤ f.l.length ∧ σ ≤ f.sy
def JSt (ls : List (List Int)) (fs : List DF) (ck σ : Nat) : Prop := (ls = [] ∧ fs = [] ∧ ck = 0 ∧ σ = 0) ∨ ∃ f, fs = [f] ∧ JFl ls σ f
theorem many_le {n : Nat} (h : n ≤ 5000) : manyL n ≤ 105 := by
  unfold manyL
  omega
attribute [local semireducible] allL in
theorem allL_one (bs : List Int) : recL 0 bs = allL ([] ++ [bs]) := by
  rw [allL_next]
  rfl
theorem app_J {K : List Fa} {gj g m ck σ : Nat} {A : Option Addr} {n c : Nat} {bs : List Int} {ls : List (List Int)} {fs : List DF} (hS : JSt ls fs ck σ) (h : Rd K A n c bs) (hl : bs.length ≤ 5000) (hcc : cellsA ls ≤ 16000) :
    Fn Try.prog 24 #[.pointer (some ⟨gj, 0, none⟩), .slice A n c] (jC gj g sj (cellsA ls) :: dB g m 1048576 :: dM m fs ck :: dS fs :: K) (Ret (fun q : DF × Nat => JFl (ls ++ [bs]) σ q.1) (fun _ => .int .i64 0) (fun q => jC gj g sj (cellsA (ls ++ [bs])) :: dB g m 1048576 :: dM m [q.1] q.2 :: dS [q.1] :: K)) := by
  rcases hS with ⟨rfl, rfl, rfl, rfl⟩ | ⟨f, rfl, h1, h2, h3, h4⟩
  · have e : cellsA ([] ++ [bs]) = manyL bs.length := by
      rw [cellsA_snoc]
      show 0 + _ = _
      omega
    refine (app_Jnew (K := K) (gj := gj) (g := g) (m := m) h hl).say fun q w _ hw => ⟨(⟨sj, q.1, q.2, recL 0 bs, 0, 0⟩, 1), ⟨rfl, allL_one bs, Nat.zero_le _, Nat.zero_le _⟩, rfl, ?_⟩
    rw [e]
    exact hw
  · have hm := many_le hl
    have h0 := app_Jyes (K := K) (gj := gj) (g := g) (m := m) (ck := ck) (k := cellsA ls) (f := f) h hl (by omega) (by rw [h1]; decide) (by rw [h1]; decide) (by rw [h2, allL_len]; omega)
    rw [h1] at h0
    refine h0.say fun q w hq hw => ?_
    obtain ⟨q1, q2, q3⟩ := hq
    refine ⟨(q, ck), ⟨q1, by rw [q2, h2, allL_next], by rw [q2, q3, List.length_append]; omega, by rw [q3]; exact h4⟩, rfl, ?_⟩
    rw [cellsA_snoc]
    exact hw
theorem sync_Js {K : List Fa} {gj g m ck k σ : Nat} {ls : List (List Int)} {f : DF} (hF : JFl ls σ f) (hn : f.l.length ≤ 1048576) :
    Fn Try.prog 25 #[.pointer (some ⟨gj, 0, none⟩)] (jC gj g sj k :: dB g m 1048576 :: dM m [f] ck :: dS [f] :: K) (Ret (fun q : DF => JFl ls f.l.length q) (fun _ => .int .i64 0) (fun q => jC gj g sj k :: dB g m 1048576 :: dM m [q] ck :: dS [q] :: K)) := by
  obtain ⟨h1, h2, h3, h4⟩ := hF
  have h0 := sync_Jf (K := K) (gj := gj) (g := g) (m := m) (ck := ck) (k := k) (f := f) h3 hn
  rw [h1] at h0
  refine h0.say fun q w hq hw => ?_
  obtain ⟨q1, q2, q3⟩ := hq
  exact ⟨q, ⟨q1, by rw [q2, h2], by rw [q2, q3]; omega, by rw [q3]; omega⟩, rfl, hw⟩
/-- Open at a journal that is cut: what is whole. -/
theorem open_cut {K : List Fa} {g m ck mm r : Nat} {ls : List (List Int)} {f : DF} (hs : f.s = sj) (hl : f.l = (allL ls).take mm) (hmm : mm ≤ (allL ls).length) (hsy : f.sy ≤ f.l.length) (hW : Whole ls mm r) (hls : ∀ x ∈ ls, x.length ≤ 65536) (hlb : ∀ x ∈ ls, IsBytes x) (hc : cellsA ls ≤ 16000) :
    Fn Try.prog 22 #[.pointer (some ⟨g, 0, none⟩), .string sj] (dB g m 1048576 :: dM m [f] ck :: dS [f] :: K) (Ret (fun p : Ok => (p.q.xs.map Sx.l = ls.take r ∧ ∀ x ∈ p.q.xs, x.ok) ∧ p.f.s = sj ∧ p.f.l = allL (ls.take r) ∧ p.f.sy = if cellsA (ls.take r) * 64 < mm then cellsA (ls.take r) * 64 else f.sy) (fun p => .tuple #[.pointer (some ⟨p.gj, 0, none⟩), .slice p.q.R p.q.xs.length p.q.c, .int .i64 0]) (fun p => jC p.gj g sj (cellsA (ls.take r)) :: p.q.row :: p.q.st :: dB g m 1048576 :: dM m [p.f] ck :: dS [p.f] :: K)) := by
  have hlen := allL_len ls
  obtain ⟨⟨c1, c2, c3⟩, c4⟩ := cut_ok hls (by omega) hmm hW
  have hab := allL_bytes ls hlb
  have hfl : f.l.length = mm := by rw [hl, List.length_take]; omega
  have hlo := hW.lo
  have h0 := open_go (K := K) (g := g) (m := m) (ck := ck) (lim := 1048576) (f := f) (j0 := r) (k0 := cellsA (ls.take r)) (out0 := ls.take r) (by omega) (by rw [hl]; exact hab.take _) hsy (by omega) (by rw [hl]; exact c1) (by rw [hl]; exact c2) (by rw [hl]; exact c3)
  rw [hs, hfl, hl, c4] at h0
  exact h0
theorem crash_one {K : List Fa} {g m ck : Nat} {lim keep : Int} {f : DF} (hsy : f.sy ≤ f.l.length) (hn : f.l.length ≤ 1048576) :
    Fn Try.prog 30 #[.pointer (some ⟨g, 0, none⟩), .int .i64 keep] (dB g m lim :: dM m [f] ck :: dS [f] :: K) (Ret (fun q : DF => q.s = f.s ∧ q.l = f.l.take (crN keep f.l f.sy) ∧ q.sy = crN keep f.l f.sy) (fun _ => .tuple #[]) (fun q => dB g m lim :: dM m [q] ck :: dS [q] :: K)) := by
  have h0 := crashD_ok (K := K) (g := g) (m := m) (ck := ck) (lim := lim) (keep := keep) (fs := [f]) (by show 1 ≤ 1000; decide) (fun x hx => by rw [List.mem_singleton] at hx; subst hx; exact ⟨hsy, hn⟩)
  refine h0.say fun q w hq hw => ?_
  obtain ⟨q0, rfl⟩ : ∃ q0, q = [q0] := List.length_eq_one_iff.1 (by have := congrArg List.length hq; simpa using this)
  have h1 : q0.ab = f.ab.cr keep := by simpa using hq
  simp only [DF.ab, Fi.cr, Fi.mk.injEq] at h1
  exact ⟨q0, h1, rfl, hw⟩
theorem crash_none {K : List Fa} {g m ck : Nat} {lim keep : Int} :
    Fn Try.prog 30 #[.pointer (some ⟨g, 0, none⟩), .int .i64 keep] (dB g m lim :: dM m [] ck :: dS [] :: K) (Ret (fun _ : Unit => True) (fun _ => .tuple #[]) (fun _ => dB g m lim :: dM m [] ck :: dS [] :: K)) := by
  have h0 := crashD_ok (K := K) (g := g) (m := m) (ck := ck) (lim := lim) (keep := keep) (fs := []) (by decide) (fun x hx => by cases hx)
  refine h0.say fun q w hq hw => ?_
  have h1 : q = [] := List.map_eq_nil_iff.1 hq
  subst h1
  exact ⟨(), trivial, rfl, hw⟩
end Go.Proofs.Ytemhhhikopemmaa
/- JournalTorn. -/
namespace Go.Proofs.Ytemhhhikopemmaa
open Go.RowKit Go.MapKept
attribute [local irreducible] Go.Calls Go.Exit.then Go.Exit.inBlock Go.bodyPost Go.Code.wp Go.wpList takeL recordL hashL recL allL
theorem ends_get (ls : List (List Int)) {i : Nat} : ∀ {n : Nat}, i < n → (endsI ls n)[i]? = some ((cellsA (ls.take (i + 1)) : Nat) : Int)
  | 0, h => absurd h (Nat.not_lt_zero _)
  | n + 1, h => by
    rw [endsI]
    by_cases hc : i < n
    · rw [List.getElem?_append_left (by rw [endsI_len]; exact hc)]
      exact ends_get ls hc
    · obtain rfl : i = n := by omega
      rw [List.getElem?_append_right (by rw [endsI_len]; exact Nat.le_refl _), endsI_len, Nat.sub_self]
      rfl
theorem bxv_one {xs : List Bx} : ∀ v ∈ xs.map Bx.v, v.oneCell' = true := by
  intro v hv
  obtain ⟨x, _, rfl⟩ := List.mem_map.1 hv
  rfl
theorem nth_Jv {φ : Prop} (h : φ := by (first | rfl | rfl)) : φ := h
theorem mid_Jv {φ : Prop} (h : φ := by (first | exact Mid.all | exact Mid.all | exact Mid.head)) : φ := h
theorem sz_Jv {φ : Prop} (h : φ := by (first | rfl | (rfl; first | done | fail))) : φ := h
theorem one_Jv {φ : Prop} (h : φ := by (first | assumption | exact one_bytes _ | (simp only [List.mem_cons, List.not_mem_nil, or_false, forall_eq_or_imp, forall_eq]; decide) | exact one_bytes _)) : φ := h
theorem set_Jv {φ : Prop} (h : φ := by (first | (fail) | ((repeat (first | exact SetAt.here | apply SetAt.there)); first | done | fail))) : φ := h
theorem cl_Jv {φ : Prop} (h : φ := by first | rfl | exact .t | exact .f | exact .t (by omega) | exact .f (by omega) | exact .u | exact .i (by (first | exact .t (by omega) | exact .f (by omega) | exact .u | exact .i (by omega) | exact .v (by omega) | exact .b (by omega) | exact .w | rfl | omega)) | exact .v (by omega) | exact .b (by omega) | exact .q (by omega) | exact .w | exact .b (by exact at_) rfl (by exact nth_Jv) | exact .w (by exact at_) rfl rfl (by exact sz_Jv) | exact .s (by exact at_) (by exact mid_Jv) rfl rfl (by exact sz_Jv) | exact .z rfl rfl ⟨by kernel_rfl⟩ | exact .b rfl rfl ⟨by kernel_rfl⟩ | exact .a rfl rfl ⟨by kernel_rfl⟩ | exact .o rfl | exact .s | exact .n | exact .p rfl | exact .q rfl | exact .c rfl | exact .d rfl | exact .n rfl rfl (by omega) | exact .a rfl rfl (by omega) | exact .p rfl rfl (by omega) (by omega) | exact .y rfl rfl (by omega) (by omega) | exact .o (by exact at_) (by omega) rfl (by exact nth_Jv) | exact .m (by exact at_) (by omega) (by exact mid_Jv) rfl rfl (by exact sz_Jv) | exact .mlen (by exact at_) rfl | exact .t (by exact at_) rfl rfl (by first | exact True.intro | rfl) (by assumption) | exact .f (by exact at_) rfl rfl (by first | exact True.intro | rfl) (by assumption) rfl | exact .t1 (by exact at_) rfl rfl (by first | exact True.intro | rfl) (by assumption) | exact .f1 (by exact at_) rfl rfl (by first | exact True.intro | rfl) (by assumption) rfl | exact .r rfl rfl (by omega) (by omega) (by exact nth_Jv) rfl | exact .s rfl (by omega) (by assumption) | exact at_ | assumption | exact .r rfl rfl | exact .h rfl rfl rfl (by omega) | exact .l rfl rfl rfl (by omega) (by omega) | exact .g rfl rfl rfl rfl (by omega) (by omega) | exact .h rfl rfl (toN_ (by omega)) (by omega) | exact .l rfl rfl (toN_ (by omega)) (by omega) (by omega) | exact .g rfl rfl (toN_ (by omega)) (toN_ (by omega)) (by omega) (by omega) | exact .o (by decide) | exact .f (by decide) | exact .n (by omega) (by first | decide | (show _ ≤ ((64 : Nat) : Int); omega)) | (constructor; (repeat (first | exact .t (by omega) | exact .f (by omega) | exact .u | exact .i (by omega) | exact .v (by omega) | exact .b (by omega) | exact .w | rfl | omega)); first | done | fail) | omega | (show _ ≤ ((64 : Nat) : Int); omega)) : φ := h
theorem pv_Jv {φ : Prop} (h : φ := by constructor; (repeat exact cl_Jv); first | done | fail) : φ := h
theorem su_Jv {φ ψ : Prop} (k : ψ) (h : Hide ψ → φ := by (intro k; (first | refine sl_pu (PuI.sep (by exact pv_Jv)) rfl ?_ | refine sl_yes rfl rfl ?_ | refine sl_no rfl rfl rfl ?_ | refine sl_off rfl rfl rfl ?_ | (fail)); exact k.out)) : φ := h ⟨k⟩
theorem rq_Jv {φ ψ : Prop} (k : ψ) (h : Hide ψ → φ := by (intro k; (first | refine wq_pu (PuI.sep (by exact pv_Jv)) rfl ?_ | refine wq_yes rfl rfl ?_ | refine wq_no rfl rfl rfl ?_ | refine wq_off rfl rfl rfl ?_ | (fail)); exact k.out)) : φ := h ⟨k⟩
theorem sto_Jv {φ ψ : Prop} (k : ψ) (h : Hide ψ → φ := by (intro k; (first | refine sl_store rfl (by exact pick_) rfl rfl (by kernel_rfl) (by exact set_Jv) ?_ | refine sl_store_whole rfl (by exact pick_) rfl (by exact sz_Jv) (by exact sz_Jv) (by exact one_Jv) ?_); exact k.out)) : φ := h ⟨k⟩
theorem go_Jv {φ ψ : Prop} (k : ψ) (h : Hide ψ → φ := by (intro k; (repeat (first | refine su_Jv ?_ | refine so_ ?_ | refine sto_Jv ?_)); exact k.out)) : φ := h ⟨k⟩
set_option maxRecDepth 100000 in
set_option maxHeartbeats 8000000 in
theorem lawTorn_ok {w : World} {R P : Option Addr} {cr cp k : Nat} {raw : List Int} {xs : List Bx} (hx : LsW w R xs) (hxc : xs.length ≤ cr) (hcm : cr ≤ maxLen) (hk : k ≤ 65535) (hp : Bx.ok w ⟨P, cp, raw⟩) :
    Fn Try.prog 11 #[.slice R xs.length cr, .int .u16 k, .slice P raw.length cp] [old w] (Ret (fun _ : Unit => True) (fun _ => .bool true) (fun _ => [old w])) := by
  refine fn_enter Try.func11 rfl _ Try.ntmps11 (by simp) [(0, .slice R xs.length cr), (1, .int .u16 k), (2, .slice P raw.length cp)] (args_of (by simp)) ?_
  have hxm : xs.length ≤ 9223372036854775807 := by unfold maxLen at hcm; omega
  have hrl : raw.length ≤ 9223372036854775807 := by
    have h1 := hp.2.2.1
    have h2 := hp.2.2.2
    unfold maxLen at h2
    exact Nat.le_trans h1 h2
  refine go_Jv ?_
  refine sl_call rfl rfl (by kernel_rfl) rfl (by exact sub_) awake17 ?_
  rintro _ -
  by_cases h12 : 12 < xs.length
  · refine go_Jv ?_
    exact se_ret1 () trivial rfl rfl (by exact sub_)
  by_cases h200 : 200 < raw.length
  · refine go_Jv ?_
    exact se_ret1 () trivial rfl rfl (by exact sub_)
  have hrd := hp.rd (by show raw.length ≤ _; omega)
  replace hrd : Rd [old w] P raw.length cp raw := hrd
  refine go_Jv ?_
  refine sc_bjoin (fun _ : Unit => [(0, .slice R xs.length cr), (1, .int .u16 k), (2, .slice P raw.length cp)]) (fun _ => [old w]) (fun _ => ∀ x ∈ xs, x.l.length ≤ 300) ?_ ?_
  · refine sc_for (fun i : Nat => [(0, .slice R xs.length cr), (1, .int .u16 k), (2, .slice P raw.length cp), (33, .slice R xs.length cr), (34, .int .i64 xs.length), (35, .int .i64 i)]) (fun _ => [old w]) (fun i => i ≤ xs.length ∧ ∀ x ∈ xs.take i, x.l.length ≤ 300) (fun i => xs.length - i) 0 (by exact has_) (by exact sub_) ⟨Nat.zero_le _, fun x hx => by simp at hx⟩ ?_
    rintro i ⟨hi, hall⟩
    by_cases hlt : i < xs.length
    · have hv : Vw [old w] (fun w => Reads w 1 R xs.length (xs.map Bx.v)) := Vw.of_old .here hx.vw
      have hxl : xs[i].l.length ≤ 9223372036854775807 := by
        have h1 := (hx.el _ (List.getElem_mem hlt)).2.2
        have h2 := h1.2
        unfold maxLen at h2
        exact Nat.le_trans h1.1 h2
      refine sc_know (vw_form hv (by omega)) ?_
      rintro ⟨ad, rfl⟩
      refine go_Jv ?_
      refine sl_pu (pu_ldr hv (by omega) rfl rfl (bx_nth hlt)) rfl ?_
      by_cases h400 : 300 < xs[i].l.length
      · refine go_Jv ?_
        exact se_ret1 () trivial rfl rfl (by exact sub_)
      · refine go_Jv ?_
        refine se_round (i + 1) (by exact has_) (by exact sub_) ⟨hlt, fun x hx => ?_⟩ (by omega)
        rw [List.take_succ_eq_append_getElem hlt] at hx
        rcases List.mem_append.1 hx with hx | hx
        · exact hall x hx
        · rw [List.mem_singleton] at hx
          subst hx
          omega
    · obtain rfl : i = xs.length := by omega
      rw [List.take_length] at hall
      refine go_Jv ?_
      exact se_mid () (by exact has_) (by exact sub_) hall
  rintro _ hall
  have hls := hx.to (fun x hx => by have := hall x hx; omega)
  refine go_Jv ?_
  refine sl_call rfl rfl (by kernel_rfl) rfl Sub.refl (all_ok (hls.mono (by exact sub_)) (by omega) (fun x hx => by have := hall x hx; omega)) ?_
  rintro ⟨⟨A3, c3⟩, ⟨A4, c4⟩⟩ -
  dsimp only
  have hll : ∀ y ∈ xs.map Bx.l, y.length ≤ 300 := fun y hy => by
    obtain ⟨z, hz, rfl⟩ := List.mem_map.1 hy
    exact hall z hz
  have hca : cellsA (xs.map Bx.l) ≤ 12 * 301 := by
    have h1 := cellsA_le hll
    have h2 : (xs.map Bx.l).length * (300 + 1) ≤ 12 * (300 + 1) := Nat.mul_le_mul_right _ (by simp; omega)
    omega
  have hal := allL_len (xs.map Bx.l)
  have hlb : ∀ y ∈ xs.map Bx.l, IsBytes y := fun y hy => by
    obtain ⟨z, hz, rfl⟩ := List.mem_map.1 hy
    exact (hx.el z hz).2.1
  have hab := allL_bytes (xs.map Bx.l) hlb
  obtain ⟨kk, hkk⟩ : ∃ kk : Nat, (k : Int) % (((cellsA (xs.map Bx.l) * 64 : Nat) : Int) + 1) = kk := ⟨((k : Int) % (((cellsA (xs.map Bx.l) * 64 : Nat) : Int) + 1)).toNat, (Int.toNat_of_nonneg (Int.emod_nonneg _ (by omega))).symm⟩
  have hkc : kk ≤ cellsA (xs.map Bx.l) * 64 := by
    have h1 := Int.emod_lt_of_pos (k : Int) (b := ((cellsA (xs.map Bx.l) * 64 : Nat) : Int) + 1) (by omega)
    omega
  refine go_Jv ?_
  rw [hkk]
  refine go_Jv ?_
  refine sc_bjoin (fun r : Nat => [(0, .slice R xs.length cr), (2, .slice P raw.length cp), (9, .slice A3 (cellsA (xs.map Bx.l) * 64) c3), (11, .int .i64 kk), (12, .int .i64 r), (13, .int .i64 (cellsA ((xs.map Bx.l).take r) : Nat))]) (fun _ => own 5 1 A3 (cellsA (xs.map Bx.l) * 64) c3 (bytes (allL (xs.map Bx.l))) :: own 3 1 A4 xs.length c4 (isv (endsI (xs.map Bx.l) xs.length)) :: [old w]) (fun r => Whole (xs.map Bx.l) kk r) ?_ ?_
  · refine sc_for (fun i : Nat => [(0, .slice R xs.length cr), (2, .slice P raw.length cp), (9, .slice A3 (cellsA (xs.map Bx.l) * 64) c3), (10, .slice A4 xs.length c4), (11, .int .i64 kk), (12, .int .i64 i), (13, .int .i64 (cellsA ((xs.map Bx.l).take i) : Nat))]) (fun _ => own 5 1 A3 (cellsA (xs.map Bx.l) * 64) c3 (bytes (allL (xs.map Bx.l))) :: own 3 1 A4 xs.length c4 (isv (endsI (xs.map Bx.l) xs.length)) :: [old w]) (fun i => i ≤ xs.length ∧ cellsA ((xs.map Bx.l).take i) * 64 ≤ kk) (fun i => xs.length - i) 0 (by exact has_) (by exact sub_) ⟨Nat.zero_le _, Nat.zero_le _⟩ ?_
    rintro i ⟨hi, hlo⟩
    have hml : (xs.map Bx.l).length = xs.length := List.length_map _
    by_cases hlt : i < xs.length
    · have hv : Vw (own 5 1 A3 (cellsA (xs.map Bx.l) * 64) c3 (bytes (allL (xs.map Bx.l))) :: own 3 1 A4 xs.length c4 (isv (endsI (xs.map Bx.l) xs.length)) :: [old w]) (fun w => Reads w 1 A4 xs.length (isv (endsI (xs.map Bx.l) xs.length))) := Vw.of_own (by exact at_)
      have hnx : nth (isv (endsI (xs.map Bx.l) xs.length)) (i * 1) = some (.int .i64 ((cellsA ((xs.map Bx.l).take (i + 1)) : Nat) : Int)) := by
        rw [nth_eq, Nat.mul_one]
        simp [isv, ends_get (xs.map Bx.l) hlt]
      have hcb : cellsA ((xs.map Bx.l).take (i + 1)) ≤ 12 * 301 := by
        have h8 := cells_mono (ls := xs.map Bx.l) (a := i + 1) (b := xs.length) hlt
        have h9 : (xs.map Bx.l).take xs.length = xs.map Bx.l := List.take_of_length_le (by simp)
        rw [h9] at h8
        omega
      refine sc_know (vw_form hv (by omega)) ?_
      rintro ⟨ad, rfl⟩
      by_cases hc : cellsA ((xs.map Bx.l).take (i + 1)) * 64 ≤ kk
      · refine go_Jv ?_
        refine sl_pu (pu_ldr hv (by omega) rfl rfl hnx) rfl ?_
        refine go_Jv ?_
        refine sl_pu (pu_ldr hv (by omega) rfl rfl hnx) rfl ?_
        refine go_Jv ?_
        exact se_round (i + 1) (by exact has_) (by exact sub_) ⟨hlt, hc⟩ (by omega)
      · refine go_Jv ?_
        refine sl_pu (pu_ldr hv (by omega) rfl rfl hnx) rfl ?_
        refine go_Jv ?_
        exact se_mid i (by exact has_) (by exact sub_) ⟨by omega, hlo, fun _ => by omega⟩
    · obtain rfl : i = xs.length := by omega
      refine go_Jv ?_
      exact se_mid xs.length (by exact has_) (by exact sub_) ⟨by omega, hlo, fun h => absurd h (by omega)⟩
  rintro r hW
  have hrx : r ≤ xs.length := by have := hW.hr; rwa [List.length_map] at this
  have hlo := hW.lo
  have hlr : ∀ x ∈ (xs.map Bx.l).take r, x.length ≤ 300 := fun y hy => hll y (List.mem_of_mem_take hy)
  have hlrb : ∀ x ∈ (xs.map Bx.l).take r, IsBytes x := fun y hy => hlb y (List.mem_of_mem_take hy)
  have hlrl : ((xs.map Bx.l).take r).length = r := by rw [List.length_take, List.length_map]; omega
  have hcr : cellsA ((xs.map Bx.l).take r) ≤ 12 * 301 := by
    have h8 := cells_mono (ls := xs.map Bx.l) (a := r) (b := xs.length) hrx
    have h9 : (xs.map Bx.l).take xs.length = xs.map Bx.l := List.take_of_length_le (by simp)
    rw [h9] at h8
    omega
  have hall2 := allL_len ((xs.map Bx.l).take r)
  have hopen := fun (f : DF) (K : List Fa) (g m ck : Nat) (h1 : f.s = sj) (h2 : f.l = (allL (xs.map Bx.l)).take kk) (h3 : f.sy ≤ f.l.length) => open_cut (K := K) (g := g) (m := m) (ck := ck) (f := f) (mm := kk) (r := r) (ls := xs.map Bx.l) h1 h2 (by omega) h3 hW (fun y hy => by have := hll y hy; omega) hlb (by omega)
  have htl : (xs.take r).map Bx.l = (xs.map Bx.l).take r := by rw [List.map_take]
  refine go_Jv ?_
  refine sl_call rfl rfl (by kernel_rfl) rfl Sub.refl newD_ok ?_
  rintro ⟨g, m⟩ -
  dsimp only
  rw [show limL 1048576 = 1048576 by rfl]
  refine sl_know (fun w hw => (own_len (e := 5) (size := 1) (A := A3) hw (by exact at_)).2) ?_
  rintro ⟨l1, l2⟩
  refine go_Jv ?_
  have hbl : ((allL (xs.map Bx.l)).take kk).length = kk := by rw [List.length_take]; omega
  have hrb : Rd (own 5 1 A3 (cellsA (xs.map Bx.l) * 64) c3 (bytes (allL (xs.map Bx.l))) :: own 3 1 A4 xs.length c4 (isv (endsI (xs.map Bx.l) xs.length)) :: [old w]) A3 (cellsA (xs.map Bx.l) * 64) c3 (allL (xs.map Bx.l)) := ⟨Vw.of_own (e := 5) .here, l1, by omega, l2, hal, hab⟩
  have happ := appD_new (K := own 5 1 A3 (cellsA (xs.map Bx.l) * 64) c3 (bytes (allL (xs.map Bx.l))) :: own 3 1 A4 xs.length c4 (isv (endsI (xs.map Bx.l) xs.length)) :: [old w]) (g := g) (m := m) (s := sj) (fs := []) (ck := 0) (lim := 1048576) (B := A3) (cb := c3) (b := (allL (xs.map Bx.l)).take kk) (by decide) (by decide) nohas (by decide) (by decide) (by rw [hbl]; show _ + (0 : Int) ≤ _; omega) (by rw [hbl]; exact (hrb.front (m := kk) hkc).vw.mono (by exact sub_))
  rw [hbl] at happ
  refine sl_call rfl rfl (by kernel_rfl) rfl Sub.refl happ ?_
  rintro ⟨A5, c5⟩ -
  dsimp only [List.nil_append]
  refine go_Jv ?_
  refine sl_call rfl rfl (by kernel_rfl) rfl Sub.refl (hopen ⟨sj, A5, c5, (allL (xs.map Bx.l)).take kk, 0, 0⟩ _ g m 1 rfl rfl (Nat.zero_le _)) ?_
  rintro ⟨gj, p, q2⟩ ⟨⟨hp1, hp2⟩, hs2, hl2, hy2⟩
  dsimp only at hp1 hp2 hs2 hl2 hy2 ⊢
  have hq2l : q2.l.length = cellsA ((xs.map Bx.l).take r) * 64 := by rw [hl2, hall2]
  have hpl : p.xs.length = r := by
    have := congrArg List.length hp1
    rw [List.length_map, hlrl] at this
    exact this
  have hsame1 : ∀ L : List Fa, Sub L [p.row, p.st] → Sub L [old w] → Fn Try.prog 17 #[.slice p.R p.xs.length p.c, .slice R (xs.take r).length cr] L (Ret (fun _ : Unit => True) (fun _ => .bool true) (fun _ => L)) := fun L h1 h2 => by
    have h3 := same_ok (c := p.c) (d := cr) ((SRow.ls (q := p) .here (.there .here) hp2).mono h1) ((hls.mono h2).take (m := r) hrx) (by rw [List.length_map, hpl]; omega)
    rw [decide_eq_true (by rw [SRow.ls_l (q := p), hp1, List.map_take]), List.length_map] at h3
    exact h3
  rw [List.length_take, Nat.min_eq_left hrx] at hsame1
  refine go_Jv ?_
  have hread := fun (K : List Fa) h1 h2 h3 => readD_ok (K := K) (g := g) (m := m) (ck := 1) (lim := 1048576) (fs := [q2]) (f := q2) h1 h2 h3 (List.mem_singleton.2 rfl) (by omega)
  have hloose := fun (K : List Fa) h1 h2 h3 => looseD_ok (K := K) (g := g) (m := m) (ck := 1) (lim := 1048576) (fs := [q2]) (f := q2) h1 h2 (List.mem_singleton.2 rfl) h3 (by omega)
  rw [hs2] at hread hloose
  refine sl_call rfl rfl (by kernel_rfl) rfl Sub.refl (hread _ (by exact at_) (by exact at_) (by exact at_)) ?_
  rintro ⟨A6, c6⟩ -
  dsimp only
  rw [hq2l]
  refine go_Jv ?_
  refine sl_call rfl rfl (by kernel_rfl) rfl Sub.refl (hsame1 _ (by exact sub_) (by exact sub_)) ?_
  rintro _ -
  refine go_Jv ?_
  refine sl_call rfl rfl (by kernel_rfl) rfl Sub.refl (cells_Jc (gj := gj) (g := g) (s := sj) (n := cellsA ((xs.map Bx.l).take r)) (by exact at_)) ?_
  rintro _ -
  have hm1 := many_le (n := raw.length) (by omega)
  have hca1 : cellsA ((xs.map Bx.l).take r ++ [raw]) ≤ 12 * 301 + 105 := by
    rw [cellsA_snoc]
    omega
  have halr := allL_len ((xs.map Bx.l).take r ++ [raw])
  have hl1 : ∀ x ∈ (xs.map Bx.l).take r ++ [raw], x.length ≤ 65536 := fun x hx => by
    rcases List.mem_append.1 hx with hx | hx
    · have := hlr x hx
      omega
    · rw [List.mem_singleton] at hx
      subst hx
      omega
  have hb1 : ∀ x ∈ (xs.map Bx.l).take r ++ [raw], IsBytes x := fun x hx => by
    rcases List.mem_append.1 hx with hx | hx
    · exact hlrb x hx
    · rw [List.mem_singleton] at hx
      subst hx
      exact hp.2.1
  by_cases hg : cellsA ((xs.map Bx.l).take r) * 64 < kk
  · rw [if_pos hg] at hy2
    have hq2y : q2.sy ≤ q2.l.length := by omega
    refine go_Jv ?_
    refine sl_call rfl rfl (by kernel_rfl) rfl Sub.refl (hloose _ (by exact at_) (by exact at_) hq2y) ?_
    rintro _ -
    rw [show q2.l.length - q2.sy = 0 by omega]
    refine go_Jv ?_
    have hap := app_J (K := u8o A6 c6 q2.l :: p.row :: p.st :: own 5 1 A3 (cellsA (xs.map Bx.l) * 64) c3 (bytes (allL (xs.map Bx.l))) :: own 3 1 A4 xs.length c4 (isv (endsI (xs.map Bx.l) xs.length)) :: [old w]) (gj := gj) (g := g) (m := m) (ck := 1) (σ := 0) (ls := (xs.map Bx.l).take r) (fs := [q2]) (.inr ⟨q2, rfl, hs2, hl2, hq2y, Nat.zero_le _⟩) (hrd.mono (by exact sub_)) (by omega) (by omega)
    refine sl_call rfl rfl (by kernel_rfl) rfl (by exact sub_) hap ?_
    rintro ⟨f3, ck3⟩ hF
    dsimp only at hF ⊢
    refine go_Jv ?_
    refine sl_call rfl rfl (by kernel_rfl) rfl Sub.refl (sync_Js (gj := gj) (g := g) (m := m) (ck := ck3) hF (by rw [hF.2.1, halr]; omega)) ?_
    rintro f4 ⟨v1, v2, v3, v4⟩
    have hf3 : f3.l.length = cellsA ((xs.map Bx.l).take r ++ [raw]) * 64 := by rw [hF.2.1, halr]
    have hf4 : f4.l.length = cellsA ((xs.map Bx.l).take r ++ [raw]) * 64 := by rw [v2, halr]
    refine go_Jv ?_
    refine sl_call rfl rfl (by kernel_rfl) rfl (by exact sub_) (crash_one (K := jC gj g sj (cellsA ((xs.map Bx.l).take r ++ [raw])) :: u8o A6 c6 q2.l :: p.row :: p.st :: own 5 1 A3 (cellsA (xs.map Bx.l) * 64) c3 (bytes (allL (xs.map Bx.l))) :: own 3 1 A4 xs.length c4 (isv (endsI (xs.map Bx.l) xs.length)) :: [old w]) (g := g) (m := m) (ck := ck3) (lim := 1048576) (f := f4) v3 (by omega)) ?_
    rintro f5 ⟨u1, u2, u3⟩
    have hcr0 : crN 0 f4.l f4.sy = f4.l.length := by
      obtain ⟨h1, h2⟩ := crN_le (keep := 0) (l := f4.l) (sy := f4.sy) (by omega)
      omega
    rw [hcr0] at u2 u3
    rw [List.take_length] at u2
    refine go_Jv ?_
    refine sl_call rfl rfl (by kernel_rfl) rfl Sub.refl (open_cut (f := f5) (mm := (allL ((xs.map Bx.l).take r ++ [raw])).length) (r := ((xs.map Bx.l).take r ++ [raw]).length) (ls := (xs.map Bx.l).take r ++ [raw]) (u1.trans v1) (by rw [u2, v2, List.take_length]) (Nat.le_refl _) (by rw [u2]; omega) ⟨Nat.le_refl _, by rw [List.take_length]; omega, fun h => absurd h (Nat.lt_irrefl _)⟩ hl1 hb1 (by omega)) ?_
    rintro ⟨gj2, p2, q6⟩ ⟨⟨hv1, hv2⟩, -, -, -⟩
    dsimp only at hv1 hv2 ⊢
    rw [List.take_length] at hv1 ⊢
    refine go_Jv ?_
    refine sl_build0 (e := 23) (size := 1) rfl (fun W => by kernel_rfl) rfl ?_
    intro g0
    refine go_Jv ?_
    have hvr := (hls.take hrx).vw
    rw [List.length_take, Nat.min_eq_left hrx] at hvr
    refine sl_app (z := .slice none 0 0) (size := 1) (bytes := 24) rfl (by exact pick_) rfl (hvr.mono (by exact sub_)) bxv_one rfl (by kernel_rfl) (by decide) (by decide) rfl (by unfold maxLen; omega) (by omega) ?_
    intro A7 c7
    rw [Nat.zero_add, List.nil_append]
    refine go_Jv ?_
    refine sl_build (size := 1) (e := 23) (cells := [.slice P raw.length cp]) rfl (fun W => by kernel_rfl) rfl (by decide) rfl ?_
    intro gb
    refine go_Jv ?_
    refine sl_app (z := .slice none 0 0) (size := 1) (bytes := 24) (A := A7) (k := r) (c := c7) rfl (by exact pick_) rfl (Vw.of_own (e := 23) (c := 1) (A := some ⟨gb, 0, none⟩) (by exact at_)) sl1_one rfl (by kernel_rfl) (by decide) (by decide) rfl (by unfold maxLen; omega) (by omega) ?_
    intro A8 c8
    have hl8 : ∀ L : List Fa, Sub L [own 23 1 A8 (r + 1) c8 ((xs.take r).map Bx.v ++ [.slice P raw.length cp])] → Sub L [old w] → LsV L A8 (xs.take r ++ [⟨P, cp, raw⟩]) := fun L h1 h2 => by
      refine ⟨?_, fun x hx => ?_⟩
      · have h3 := (Vw.of_own (e := 23) (A := A8) (c := c8) .here).mono h1
        rw [List.length_append, List.length_take, Nat.min_eq_left hrx, List.map_append]
        exact h3
      · rcases List.mem_append.1 hx with hx | hx
        · exact ((hls.take hrx).el x hx).mono h2
        · rw [List.mem_singleton] at hx
          subst hx
          exact hrd.mono h2
    have hsame2 : ∀ L : List Fa, Sub L [p2.row, p2.st] → Sub L [own 23 1 A8 (r + 1) c8 ((xs.take r).map Bx.v ++ [.slice P raw.length cp])] → Sub L [old w] → Fn Try.prog 17 #[.slice p2.R p2.xs.length p2.c, .slice A8 (r + 1) c8] L (Ret (fun _ : Unit => True) (fun _ => .bool true) (fun _ => L)) := fun L h1 h2 h3 => by
      have h5 : p2.xs.length = r + 1 := by
        have e1 := congrArg List.length hv1
        rw [List.length_map, List.length_append, hlrl] at e1
        exact e1
      have h4 := same_ok (c := p2.c) (d := c8) ((SRow.ls (q := p2) .here (.there .here) hv2).mono h1) (hl8 L h2 h3) (by rw [List.length_map, h5]; omega)
      rw [decide_eq_true (by rw [SRow.ls_l (q := p2), hv1, List.map_append, List.map_take]; rfl), List.length_map, List.length_append, List.length_take, Nat.min_eq_left hrx] at h4
      exact h4
    refine go_Jv ?_
    refine sl_call rfl rfl (by kernel_rfl) rfl Sub.refl (hsame2 _ (by exact sub_) (by exact sub_) (by exact sub_)) ?_
    rintro _ -
    refine go_Jv ?_
    refine sl_call rfl rfl (by kernel_rfl) rfl Sub.refl (cells_Jc (gj := gj2) (g := g) (s := sj) (n := cellsA ((xs.map Bx.l).take r ++ [raw])) (by exact at_)) ?_
    rintro _ -
    refine go_Jv ?_
    refine sl_call rfl rfl (by kernel_rfl) rfl Sub.refl (cells_Jc (gj := gj) (g := g) (s := sj) (n := cellsA ((xs.map Bx.l).take r ++ [raw])) (by exact at_)) ?_
    rintro _ -
    refine go_Jv ?_
    exact se_ret1 () trivial rfl rfl (by exact sub_)
  · rw [if_neg hg] at hy2
    have hq2y : q2.sy ≤ q2.l.length := by omega
    refine go_Jv ?_
    have hap := app_J (K := u8o A6 c6 q2.l :: p.row :: p.st :: own 5 1 A3 (cellsA (xs.map Bx.l) * 64) c3 (bytes (allL (xs.map Bx.l))) :: own 3 1 A4 xs.length c4 (isv (endsI (xs.map Bx.l) xs.length)) :: [old w]) (gj := gj) (g := g) (m := m) (ck := 1) (σ := 0) (ls := (xs.map Bx.l).take r) (fs := [q2]) (.inr ⟨q2, rfl, hs2, hl2, hq2y, Nat.zero_le _⟩) (hrd.mono (by exact sub_)) (by omega) (by omega)
    refine sl_call rfl rfl (by kernel_rfl) rfl (by exact sub_) hap ?_
    rintro ⟨f3, ck3⟩ hF
    dsimp only at hF ⊢
    refine go_Jv ?_
    refine sl_call rfl rfl (by kernel_rfl) rfl Sub.refl (sync_Js (gj := gj) (g := g) (m := m) (ck := ck3) hF (by rw [hF.2.1, halr]; omega)) ?_
    rintro f4 ⟨v1, v2, v3, v4⟩
    have hf3 : f3.l.length = cellsA ((xs.map Bx.l).take r ++ [raw]) * 64 := by rw [hF.2.1, halr]
    have hf4 : f4.l.length = cellsA ((xs.map Bx.l).take r ++ [raw]) * 64 := by rw [v2, halr]
    refine go_Jv ?_
    refine sl_call rfl rfl (by kernel_rfl) rfl (by exact sub_) (crash_one (K := jC gj g sj (cellsA ((xs.map Bx.l).take r ++ [raw])) :: u8o A6 c6 q2.l :: p.row :: p.st :: own 5 1 A3 (cellsA (xs.map Bx.l) * 64) c3 (bytes (allL (xs.map Bx.l))) :: own 3 1 A4 xs.length c4 (isv (endsI (xs.map Bx.l) xs.length)) :: [old w]) (g := g) (m := m) (ck := ck3) (lim := 1048576) (f := f4) v3 (by omega)) ?_
    rintro f5 ⟨u1, u2, u3⟩
    have hcr0 : crN 0 f4.l f4.sy = f4.l.length := by
      obtain ⟨h1, h2⟩ := crN_le (keep := 0) (l := f4.l) (sy := f4.sy) (by omega)
      omega
    rw [hcr0] at u2 u3
    rw [List.take_length] at u2
    refine go_Jv ?_
    refine sl_call rfl rfl (by kernel_rfl) rfl Sub.refl (open_cut (f := f5) (mm := (allL ((xs.map Bx.l).take r ++ [raw])).length) (r := ((xs.map Bx.l).take r ++ [raw]).length) (ls := (xs.map Bx.l).take r ++ [raw]) (u1.trans v1) (by rw [u2, v2, List.take_length]) (Nat.le_refl _) (by rw [u2]; omega) ⟨Nat.le_refl _, by rw [List.take_length]; omega, fun h => absurd h (Nat.lt_irrefl _)⟩ hl1 hb1 (by omega)) ?_
    rintro ⟨gj2, p2, q6⟩ ⟨⟨hv1, hv2⟩, -, -, -⟩
    dsimp only at hv1 hv2 ⊢
    rw [List.take_length] at hv1 ⊢
    refine go_Jv ?_
    refine sl_build0 (e := 23) (size := 1) rfl (fun W => by kernel_rfl) rfl ?_
    intro g0
    refine go_Jv ?_
    have hvr := (hls.take hrx).vw
    rw [List.length_take, Nat.min_eq_left hrx] at hvr
    refine sl_app (z := .slice none 0 0) (size := 1) (bytes := 24) rfl (by exact pick_) rfl (hvr.mono (by exact sub_)) bxv_one rfl (by kernel_rfl) (by decide) (by decide) rfl (by unfold maxLen; omega) (by omega) ?_
    intro A7 c7
    rw [Nat.zero_add, List.nil_append]
    refine go_Jv ?_
    refine sl_build (size := 1) (e := 23) (cells := [.slice P raw.length cp]) rfl (fun W => by kernel_rfl) rfl (by decide) rfl ?_
    intro gb
    refine go_Jv ?_
    refine sl_app (z := .slice none 0 0) (size := 1) (bytes := 24) (A := A7) (k := r) (c := c7) rfl (by exact pick_) rfl (Vw.of_own (e := 23) (c := 1) (A := some ⟨gb, 0, none⟩) (by exact at_)) sl1_one rfl (by kernel_rfl) (by decide) (by decide) rfl (by unfold maxLen; omega) (by omega) ?_
    intro A8 c8
    have hl8 : ∀ L : List Fa, Sub L [own 23 1 A8 (r + 1) c8 ((xs.take r).map Bx.v ++ [.slice P raw.length cp])] → Sub L [old w] → LsV L A8 (xs.take r ++ [⟨P, cp, raw⟩]) := fun L h1 h2 => by
      refine ⟨?_, fun x hx => ?_⟩
      · have h3 := (Vw.of_own (e := 23) (A := A8) (c := c8) .here).mono h1
        rw [List.length_append, List.length_take, Nat.min_eq_left hrx, List.map_append]
        exact h3
      · rcases List.mem_append.1 hx with hx | hx
        · exact ((hls.take hrx).el x hx).mono h2
        · rw [List.mem_singleton] at hx
          subst hx
          exact hrd.mono h2
    have hsame2 : ∀ L : List Fa, Sub L [p2.row, p2.st] → Sub L [own 23 1 A8 (r + 1) c8 ((xs.take r).map Bx.v ++ [.slice P raw.length cp])] → Sub L [old w] → Fn Try.prog 17 #[.slice p2.R p2.xs.length p2.c, .slice A8 (r + 1) c8] L (Ret (fun _ : Unit => True) (fun _ => .bool true) (fun _ => L)) := fun L h1 h2 h3 => by
      have h5 : p2.xs.length = r + 1 := by
        have e1 := congrArg List.length hv1
        rw [List.length_map, List.length_append, hlrl] at e1
        exact e1
      have h4 := same_ok (c := p2.c) (d := c8) ((SRow.ls (q := p2) .here (.there .here) hv2).mono h1) (hl8 L h2 h3) (by rw [List.length_map, h5]; omega)
      rw [decide_eq_true (by rw [SRow.ls_l (q := p2), hv1, List.map_append, List.map_take]; rfl), List.length_map, List.length_append, List.length_take, Nat.min_eq_left hrx] at h4
      exact h4
    refine go_Jv ?_
    refine sl_call rfl rfl (by kernel_rfl) rfl Sub.refl (hsame2 _ (by exact sub_) (by exact sub_) (by exact sub_)) ?_
    rintro _ -
    refine go_Jv ?_
    refine sl_call rfl rfl (by kernel_rfl) rfl Sub.refl (cells_Jc (gj := gj2) (g := g) (s := sj) (n := cellsA ((xs.map Bx.l).take r ++ [raw])) (by exact at_)) ?_
    rintro _ -
    refine go_Jv ?_
    refine sl_call rfl rfl (by kernel_rfl) rfl Sub.refl (cells_Jc (gj := gj) (g := g) (s := sj) (n := cellsA ((xs.map Bx.l).take r ++ [raw])) (by exact at_)) ?_
    rintro _ -
    refine go_Jv ?_
    exact se_ret1 () trivial rfl rfl (by exact sub_)
theorem Torn_v {v v2 : Value} {b : Int} {w : World} (hb : 0 ≤ b ∧ b ≤ 65535) (h : LsVC w v) (h2 : BxV w v2) : Calls Try.prog 11 #[v, .int .u16 b, v2] w fun e w' => e = .returned (.bool true) ∧ Fr Nil w w' := by
  obtain ⟨k, rfl⟩ : ∃ k : Nat, b = k := ⟨b.toNat, by omega⟩
  obtain ⟨R, c, xs, rfl, h1, h2', h3⟩ := h
  obtain ⟨y, rfl, hy⟩ := h2
  exact Fn.top (lawTorn_ok h1 h2' h3 (by omega) hy)
end Go.Proofs.Ytemhhhikopemmaa
