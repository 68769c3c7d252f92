/- Several texts of one claim, one behind the other (Jy, Jz). -/
import Derived.Test.YtemhhhikopemmaaB22
import Derived.Test.YtemhhhikopemmaaB23
import Derived.Test.YtemhhhikopemmaaB18
/- A journal's states on a disk: Append, Sync, Open after a cut, Crash. -/
namespace Go.Proofs.Ytemhhhikopemmaa
open Go.RowKit Go.MapKept
attribute [local irreducible] Go.Calls Go.Exit.then Go.Exit.inBlock Go.bodyPost Go.Code.wp Go.wpList takeL recordL hashL recL allL
/-- The file of a journal with these records, synced so far at least. -/
def JFl (ls : List (List Int)) (σ : Nat) (f : DF) : Prop := f.s = sj ∧ f.l = allL ls ∧ f.sy ≤ f.l.length ∧ σ ≤ f.sy
def JSt (ls : List (List Int)) (fs : List DF) (ck σ : Nat) : Prop := (ls = [] ∧ fs = [] ∧ ck = 0 ∧ σ = 0) ∨ ∃ f, fs = [f] ∧ JFl ls σ f
theorem many_le {n : Nat} (h : n ≤ 5000) : manyL n ≤ 105 := by
  unfold manyL
  omega
attribute [local semireducible] allL in
theorem allL_one (bs : List Int) : recL 0 bs = allL ([] ++ [bs]) := by
  rw [allL_next]
  rfl
theorem app_J {K : List Fa} {gj g m ck σ : Nat} {A : Option Addr} {n c : Nat} {bs : List Int} {ls : List (List Int)} {fs : List DF} (hS : JSt ls fs ck σ) (h : Rd K A n c bs) (hl : bs.length ≤ 5000) (hcc : cellsA ls ≤ 16000) :
    Fn Try.prog 24 #[.pointer (some ⟨gj, 0, none⟩), .slice A n c] (jC gj g sj (cellsA ls) :: dB g m 1048576 :: dM m fs ck :: dS fs :: K) (Ret (fun q : DF × Nat => JFl (ls ++ [bs]) σ q.1) (fun _ => .int .i64 0) (fun q => jC gj g sj (cellsA (ls ++ [bs])) :: dB g m 1048576 :: dM m [q.1] q.2 :: dS [q.1] :: K)) := by
  rcases hS with ⟨rfl, rfl, rfl, rfl⟩ | ⟨f, rfl, h1, h2, h3, h4⟩
  · have e : cellsA ([] ++ [bs]) = manyL bs.length := by
      rw [cellsA_snoc]
      show 0 + _ = _
      omega
    refine (app_Jnew (K := K) (gj := gj) (g := g) (m := m) h hl).say fun q w _ hw => ⟨(⟨sj, q.1, q.2, recL 0 bs, 0, 0⟩, 1), ⟨rfl, allL_one bs, Nat.zero_le _, Nat.zero_le _⟩, rfl, ?_⟩
    rw [e]
    exact hw
  · have hm := many_le hl
    have h0 := app_Jyes (K := K) (gj := gj) (g := g) (m := m) (ck := ck) (k := cellsA ls) (f := f) h hl (by omega) (by rw [h1]; decide) (by rw [h1]; decide) (by rw [h2, allL_len]; omega)
    rw [h1] at h0
    refine h0.say fun q w hq hw => ?_
    obtain ⟨q1, q2, q3⟩ := hq
    refine ⟨(q, ck), ⟨q1, by rw [q2, h2, allL_next], by rw [q2, q3, List.length_append]; omega, by rw [q3]; exact h4⟩, rfl, ?_⟩
    rw [cellsA_snoc]
    exact hw
theorem sync_Js {K : List Fa} {gj g m ck k σ : Nat} {ls : List (List Int)} {f : DF} (hF : JFl ls σ f) (hn : f.l.length ≤ 1048576) :
    Fn Try.prog 25 #[.pointer (some ⟨gj, 0, none⟩)] (jC gj g sj k :: dB g m 1048576 :: dM m [f] ck :: dS [f] :: K) (Ret (fun q : DF => JFl ls f.l.length q) (fun _ => .int .i64 0) (fun q => jC gj g sj k :: dB g m 1048576 :: dM m [q] ck :: dS [q] :: K)) := by
  obtain ⟨h1, h2, h3, h4⟩ := hF
  have h0 := sync_Jf (K := K) (gj := gj) (g := g) (m := m) (ck := ck) (k := k) (f := f) h3 hn
  rw [h1] at h0
  refine h0.say fun q w hq hw => ?_
  obtain ⟨q1, q2, q3⟩ := hq
  exact ⟨q, ⟨q1, by rw [q2, h2], by rw [q2, q3]; omega, by rw [q3]; omega⟩, rfl, hw⟩
/-- Open at a journal that is cut: what is whole. -/
theorem open_cut {K : List Fa} {g m ck mm r : Nat} {ls : List (List Int)} {f : DF} (hs : f.s = sj) (hl : f.l = (allL ls).take mm) (hmm : mm ≤ (allL ls).length) (hsy : f.sy ≤ f.l.length) (hW : Whole ls mm r) (hls : ∀ x ∈ ls, x.length ≤ 65536) (hlb : ∀ x ∈ ls, IsBytes x) (hc : cellsA ls ≤ 16000) :
    Fn Try.prog 22 #[.pointer (some ⟨g, 0, none⟩), .string sj] (dB g m 1048576 :: dM m [f] ck :: dS [f] :: K) (Ret (fun p : Ok => (p.q.xs.map Sx.l = ls.take r ∧ ∀ x ∈ p.q.xs, x.ok) ∧ p.f.s = sj ∧ p.f.l = allL (ls.take r) ∧ p.f.sy = if cellsA (ls.take r) * 64 < mm then cellsA (ls.take r) * 64 else f.sy) (fun p => .tuple #[.pointer (some ⟨p.gj, 0, none⟩), .slice p.q.R p.q.xs.length p.q.c, .int .i64 0]) (fun p => jC p.gj g sj (cellsA (ls.take r)) :: p.q.row :: p.q.st :: dB g m 1048576 :: dM m [p.f] ck :: dS [p.f] :: K)) := by
  have hlen := allL_len ls
  obtain ⟨⟨c1, c2, c3⟩, c4⟩ := cut_ok hls (by omega) hmm hW
  have hab := allL_bytes ls hlb
  have hfl : f.l.length = mm := by rw [hl, List.length_take]; omega
  have hlo := hW.lo
  have h0 := open_go (K := K) (g := g) (m := m) (ck := ck) (lim := 1048576) (f := f) (j0 := r) (k0 := cellsA (ls.take r)) (out0 := ls.take r) (by omega) (by rw [hl]; exact hab.take _) hsy (by omega) (by rw [hl]; exact c1) (by rw [hl]; exact c2) (by rw [hl]; exact c3)
  rw [hs, hfl, hl, c4] at h0
  exact h0
theorem crash_one {K : List Fa} {g m ck : Nat} {lim keep : Int} {f : DF} (hsy : f.sy ≤ f.l.length) (hn : f.l.length ≤ 1048576) :
    Fn Try.prog 30 #[.pointer (some ⟨g, 0, none⟩), .int .i64 keep] (dB g m lim :: dM m [f] ck :: dS [f] :: K) (Ret (fun q : DF => q.s = f.s ∧ q.l = f.l.take (crN keep f.l f.sy) ∧ q.sy = crN keep f.l f.sy) (fun _ => .tuple #[]) (fun q => dB g m lim :: dM m [q] ck :: dS [q] :: K)) := by
  have h0 := crashD_ok (K := K) (g := g) (m := m) (ck := ck) (lim := lim) (keep := keep) (fs := [f]) (by show 1 ≤ 1000; decide) (fun x hx => by rw [List.mem_singleton] at hx; subst hx; exact ⟨hsy, hn⟩)
  refine h0.say fun q w hq hw => ?_
  obtain ⟨q0, rfl⟩ : ∃ q0, q = [q0] := List.length_eq_one_iff.1 (by have := congrArg List.length hq; simpa using this)
  have h1 : q0.ab = f.ab.cr keep := by simpa using hq
  simp only [DF.ab, Fi.cr, Fi.mk.injEq] at h1
  exact ⟨q0, h1, rfl, hw⟩
theorem crash_none {K : List Fa} {g m ck : Nat} {lim keep : Int} :
    Fn Try.prog 30 #[.pointer (some ⟨g, 0, none⟩), .int .i64 keep] (dB g m lim :: dM m [] ck :: dS [] :: K) (Ret (fun _ : Unit => True) (fun _ => .tuple #[]) (fun _ => dB g m lim :: dM m [] ck :: dS [] :: K)) := by
  have h0 := crashD_ok (K := K) (g := g) (m := m) (ck := ck) (lim := lim) (keep := keep) (fs := []) (by decide) (fun x hx => by cases hx)
  refine h0.say fun q w hq hw => ?_
  have h1 : q = [] := List.map_eq_nil_iff.1 hq
  subst h1
  exact ⟨(), trivial, rfl, hw⟩
end Go.Proofs.Ytemhhhikopemmaa
/- JournalCrashes. -/
namespace Go.Proofs.Ytemhhhikopemmaa
open Go.RowKit Go.MapKept
attribute [local irreducible] Go.Calls Go.Exit.then Go.Exit.inBlock Go.bodyPost Go.Code.wp Go.wpList takeL recordL hashL recL allL
theorem LsV.nil0 {K : List Fa} {R : Option Addr} : LsV K R [] := ⟨fun w _ => ⟨rfl, fun h => by simp at h⟩, fun x hx => by cases hx⟩
structure Cg where
  i : Nat
  fs : List DF
  ck : Nat
  σ : Nat
  sn : Nat
theorem nth_Jz {φ : Prop} (h : φ := by (first | rfl | rfl)) : φ := h
theorem mid_Jz {φ : Prop} (h : φ := by (first | exact Mid.all | exact Mid.all | exact Mid.head)) : φ := h
theorem sz_Jz {φ : Prop} (h : φ := by (first | rfl | (rfl; first | done | fail))) : φ := h
theorem one_Jz {φ : Prop} (h : φ := by (first | assumption | exact one_bytes _ | (simp only [List.mem_cons, List.not_mem_nil, or_false, forall_eq_or_imp, forall_eq]; decide) | exact one_bytes _)) : φ := h
theorem set_Jz {φ : Prop} (h : φ := by (first | (fail) | ((repeat (first | exact SetAt.here | apply SetAt.there)); first | done | fail))) : φ := h
theorem cl_Jz {φ : Prop} (h : φ := by first | rfl | exact .t | exact .f | exact .t (by omega) | exact .f (by omega) | exact .u | exact .i (by (first | exact .t (by omega) | exact .f (by omega) | exact .u | exact .i (by omega) | exact .v (by omega) | exact .b (by omega) | exact .w | rfl | omega)) | exact .v (by omega) | exact .b (by omega) | exact .q (by omega) | exact .w | exact .b (by exact at_) rfl (by exact nth_Jz) | exact .w (by exact at_) rfl rfl (by exact sz_Jz) | exact .s (by exact at_) (by exact mid_Jz) rfl rfl (by exact sz_Jz) | exact .z rfl rfl ⟨by kernel_rfl⟩ | exact .b rfl rfl ⟨by kernel_rfl⟩ | exact .a rfl rfl ⟨by kernel_rfl⟩ | exact .o rfl | exact .s | exact .n | exact .p rfl | exact .q rfl | exact .c rfl | exact .d rfl | exact .n rfl rfl (by omega) | exact .a rfl rfl (by omega) | exact .p rfl rfl (by omega) (by omega) | exact .y rfl rfl (by omega) (by omega) | exact .o (by exact at_) (by omega) rfl (by exact nth_Jz) | exact .m (by exact at_) (by omega) (by exact mid_Jz) rfl rfl (by exact sz_Jz) | exact .mlen (by exact at_) rfl | exact .t (by exact at_) rfl rfl (by first | exact True.intro | rfl) (by assumption) | exact .f (by exact at_) rfl rfl (by first | exact True.intro | rfl) (by assumption) rfl | exact .t1 (by exact at_) rfl rfl (by first | exact True.intro | rfl) (by assumption) | exact .f1 (by exact at_) rfl rfl (by first | exact True.intro | rfl) (by assumption) rfl | exact .r rfl rfl (by omega) (by omega) (by exact nth_Jz) rfl | exact .s rfl (by omega) (by assumption) | exact at_ | assumption | exact .r rfl rfl | exact .h rfl rfl rfl (by omega) | exact .l rfl rfl rfl (by omega) (by omega) | exact .g rfl rfl rfl rfl (by omega) (by omega) | exact .h rfl rfl (toN_ (by omega)) (by omega) | exact .l rfl rfl (toN_ (by omega)) (by omega) (by omega) | exact .g rfl rfl (toN_ (by omega)) (toN_ (by omega)) (by omega) (by omega) | exact .o (by decide) | exact .f (by decide) | exact .n (by omega) (by first | decide | (show _ ≤ ((64 : Nat) : Int); omega)) | (constructor; (repeat (first | exact .t (by omega) | exact .f (by omega) | exact .u | exact .i (by omega) | exact .v (by omega) | exact .b (by omega) | exact .w | rfl | omega)); first | done | fail) | omega | (show _ ≤ ((64 : Nat) : Int); omega)) : φ := h
theorem pv_Jz {φ : Prop} (h : φ := by constructor; (repeat exact cl_Jz); first | done | fail) : φ := h
theorem su_Jz {φ ψ : Prop} (k : ψ) (h : Hide ψ → φ := by (intro k; (first | refine sl_pu (PuI.sep (by exact pv_Jz)) rfl ?_ | refine sl_yes rfl rfl ?_ | refine sl_no rfl rfl rfl ?_ | refine sl_off rfl rfl rfl ?_ | (fail)); exact k.out)) : φ := h ⟨k⟩
theorem rq_Jz {φ ψ : Prop} (k : ψ) (h : Hide ψ → φ := by (intro k; (first | refine wq_pu (PuI.sep (by exact pv_Jz)) rfl ?_ | refine wq_yes rfl rfl ?_ | refine wq_no rfl rfl rfl ?_ | refine wq_off rfl rfl rfl ?_ | (fail)); exact k.out)) : φ := h ⟨k⟩
theorem sto_Jz {φ ψ : Prop} (k : ψ) (h : Hide ψ → φ := by (intro k; (first | refine sl_store rfl (by exact pick_) rfl rfl (by kernel_rfl) (by exact set_Jz) ?_ | refine sl_store_whole rfl (by exact pick_) rfl (by exact sz_Jz) (by exact sz_Jz) (by exact one_Jz) ?_); exact k.out)) : φ := h ⟨k⟩
theorem go_Jz {φ ψ : Prop} (k : ψ) (h : Hide ψ → φ := by (intro k; (repeat (first | refine su_Jz ?_ | refine so_ ?_ | refine sto_Jz ?_)); exact k.out)) : φ := h ⟨k⟩
set_option maxRecDepth 100000 in
set_option maxHeartbeats 8000000 in
theorem lawCrash_ok {w : World} {R : Option Addr} {cr s k : Nat} {xs : List Bx} (hx : LsW w R xs) (hxc : xs.length ≤ cr) (hcm : cr ≤ maxLen) (hs : s ≤ 255) (hk : k ≤ 65535) :
    Fn Try.prog 10 #[.slice R xs.length cr, .int .u8 s, .int .u16 k] [old w] (Ret (fun _ : Unit => True) (fun _ => .bool true) (fun _ => [old w])) := by
  refine fn_enter Try.func10 rfl _ Try.ntmps10 (by simp) [(0, .slice R xs.length cr), (1, .int .u8 s), (2, .int .u16 k)] (args_of (by simp)) ?_
  have hxm : xs.length ≤ 9223372036854775807 := by unfold maxLen at hcm; omega
  refine go_Jz ?_
  refine sl_call rfl rfl (by kernel_rfl) rfl (by exact sub_) awake17 ?_
  rintro _ -
  by_cases h12 : 15 < xs.length
  · refine go_Jz ?_
    exact se_ret1 () trivial rfl rfl (by exact sub_)
  refine go_Jz ?_
  refine sl_call rfl rfl (by kernel_rfl) rfl Sub.refl newD_ok ?_
  rintro ⟨g, m⟩ -
  dsimp only
  rw [show limL 1048576 = 1048576 by rfl]
  refine go_Jz ?_
  refine sl_call rfl rfl (by kernel_rfl) rfl Sub.refl (open_new (s := sj) (g := g) (m := m) (lim := 1048576)) ?_
  rintro ⟨gj, R1, c1⟩ -
  dsimp only
  refine go_Jz ?_
  refine sc_bjoin (fun q : Cg => [(0, .slice R xs.length cr), (2, .int .u16 k), (7, .pointer (some ⟨g, 0, none⟩)), (9, .slice R1 0 c1), (10, .int .i64 0), (11, .int .i64 q.sn)]) (fun q => dB g m 1048576 :: dM m q.fs q.ck :: dS q.fs :: [old w]) (fun q => (∀ x ∈ xs, x.l.length ≤ 200) ∧ JSt (xs.map Bx.l) q.fs q.ck q.σ ∧ q.sn ≤ xs.length ∧ cellsA ((xs.map Bx.l).take q.sn) * 64 ≤ q.σ) ?_ ?_
  · refine sc_for (fun q : Cg => [(0, .slice R xs.length cr), (1, .int .u8 s), (2, .int .u16 k), (7, .pointer (some ⟨g, 0, none⟩)), (8, .pointer (some ⟨gj, 0, none⟩)), (9, .slice R1 0 c1), (10, .int .i64 0), (11, .int .i64 q.sn), (32, .slice R xs.length cr), (33, .int .i64 xs.length), (34, .int .i64 q.i)]) (fun q => jC gj g sj (cellsA ((xs.map Bx.l).take q.i)) :: dB g m 1048576 :: dM m q.fs q.ck :: dS q.fs :: [old w]) (fun q => q.i ≤ xs.length ∧ (∀ x ∈ xs.take q.i, x.l.length ≤ 200) ∧ JSt ((xs.map Bx.l).take q.i) q.fs q.ck q.σ ∧ q.sn ≤ q.i ∧ cellsA ((xs.map Bx.l).take q.sn) * 64 ≤ q.σ) (fun q => xs.length - q.i) ⟨0, [], 0, 0, 0⟩ (by exact has_) (by exact sub_) ⟨Nat.zero_le _, (fun x hx => by simp at hx), .inl ⟨rfl, rfl, rfl, rfl⟩, Nat.le_refl _, Nat.le_refl _⟩ ?_
    rintro ⟨i, fs, ck, σ, sn⟩ ⟨hi, hall, hS, hsn, hσ⟩
    dsimp only at hi hall hS hsn hσ ⊢
    by_cases hlt : i < xs.length
    · have hv : Vw (jC gj g sj (cellsA ((xs.map Bx.l).take i)) :: dB g m 1048576 :: dM m fs ck :: dS fs :: [old w]) (fun w => Reads w 1 R xs.length (xs.map Bx.v)) := Vw.of_old (by exact at_) hx.vw
      have hxl : xs[i].l.length ≤ 9223372036854775807 := by
        have h1 := (hx.el _ (List.getElem_mem hlt)).2.2
        have h2 := h1.2
        unfold maxLen at h2
        exact Nat.le_trans h1.1 h2
      refine sc_know (vw_form hv (by omega)) ?_
      rintro ⟨ad, rfl⟩
      refine go_Jz ?_
      refine sl_pu (pu_ldr hv (by omega) rfl rfl (bx_nth hlt)) rfl ?_
      by_cases h400 : 200 < xs[i].l.length
      · refine go_Jz ?_
        exact se_ret1 () trivial rfl rfl (by exact sub_)
      · have hll : ∀ y ∈ (xs.map Bx.l).take i, y.length ≤ 200 := fun y hy => by
          rw [← List.map_take] at hy
          obtain ⟨z, hz, rfl⟩ := List.mem_map.1 hy
          exact hall z hz
        have hca : cellsA ((xs.map Bx.l).take i) ≤ 15 * 201 := by
          have h1 := cellsA_le hll
          have h2 : ((xs.map Bx.l).take i).length * (200 + 1) ≤ 15 * (200 + 1) := Nat.mul_le_mul_right _ (by rw [List.length_take, List.length_map]; omega)
          omega
        have t1 : (xs.map Bx.l).take (i + 1) = (xs.map Bx.l).take i ++ [xs[i].l] := by
          rw [List.take_succ_eq_append_getElem (by simpa using hlt)]
          simp
        have hrd := (hx.el _ (List.getElem_mem hlt)).rd (by omega)
        refine go_Jz ?_
        refine sl_call rfl rfl (by kernel_rfl) rfl Sub.refl (app_J (gj := gj) (g := g) (m := m) hS hrd (by omega) (by omega)) ?_
        rintro ⟨f1, ck1⟩ hF
        dsimp only at hF ⊢
        rw [← t1] at hF ⊢
        have hall1 : ∀ x ∈ xs.take (i + 1), x.l.length ≤ 200 := fun x hx => by
          rw [List.take_succ_eq_append_getElem hlt] at hx
          rcases List.mem_append.1 hx with hx | hx
          · exact hall x hx
          · rw [List.mem_singleton] at hx
            subst hx
            omega
        have hm1 := many_le (n := xs[i].l.length) (by omega)
        have hfl : f1.l.length = cellsA ((xs.map Bx.l).take (i + 1)) * 64 := by rw [hF.2.1, allL_len]
        have hca1 : cellsA ((xs.map Bx.l).take (i + 1)) ≤ 15 * 201 + 105 := by
          rw [t1, cellsA_snoc]
          omega
        by_cases hsy : (i : Int) = (s : Int) % 15
        · refine go_Jz ?_
          refine sl_call rfl rfl (by kernel_rfl) rfl Sub.refl (sync_Js (gj := gj) (g := g) (m := m) (ck := ck1) hF (by omega)) ?_
          rintro f2 hF2
          refine go_Jz ?_
          exact se_round ⟨i + 1, [f2], ck1, f1.l.length, i + 1⟩ (by exact has_) (by exact sub_) ⟨hlt, hall1, .inr ⟨f2, rfl, hF2⟩, Nat.le_refl _, by dsimp only; omega⟩ (by dsimp only; omega)
        · refine go_Jz ?_
          exact se_round ⟨i + 1, [f1], ck1, σ, sn⟩ (by exact has_) (by exact sub_) ⟨hlt, hall1, .inr ⟨f1, rfl, hF⟩, by dsimp only; omega, hσ⟩ (by dsimp only; omega)
    · obtain rfl : i = xs.length := by omega
      rw [List.take_length] at hall
      rw [List.take_of_length_le (by simp)] at hS
      refine go_Jz ?_
      exact se_mid ⟨0, fs, ck, σ, sn⟩ (by exact has_) (by exact sub_) ⟨hall, hS, hsn, hσ⟩
  rintro ⟨i0, fs, ck, σ, sn⟩ ⟨hall, hS, hsn, hσ⟩
  dsimp only at hS hsn hσ ⊢
  have hls := hx.to (fun x hx => by have := hall x hx; omega)
  rcases hS with ⟨h1, rfl, rfl, rfl⟩ | ⟨f, rfl, f1, f2, f3, f4⟩
  · have h2 : xs = [] := List.map_eq_nil_iff.1 h1
    subst h2
    obtain rfl : sn = 0 := by simpa using hsn
    have hs00 : ∀ {L : List Fa} {A B : Option Addr} {c d : Nat}, Fn Try.prog 17 #[.slice A 0 c, .slice B 0 d] L (Ret (fun _ : Unit => True) (fun _ => .bool true) (fun _ => L)) := fun {L A B c d} => by
      have h3 := same_ok (K := L) (R := A) (S := B) (c := c) (d := d) LsV.nil0 LsV.nil0 (by decide)
      rw [decide_eq_true rfl] at h3
      exact h3
    refine go_Jz ?_
    refine sl_call rfl rfl (by kernel_rfl) rfl Sub.refl crash_none ?_
    rintro _ -
    refine go_Jz ?_
    refine sl_call rfl rfl (by kernel_rfl) rfl Sub.refl (open_new (s := sj) (g := g) (m := m) (lim := 1048576)) ?_
    rintro ⟨gj2, R2, c2⟩ -
    refine go_Jz ?_
    refine sl_call rfl rfl (by kernel_rfl) rfl (by exact sub_) (crash_none (K := jB gj2 g sj :: [old w]) (g := g) (m := m) (ck := 0) (lim := 1048576)) ?_
    rintro _ -
    refine go_Jz ?_
    refine sl_call rfl rfl (by kernel_rfl) rfl Sub.refl (open_new (s := sj) (g := g) (m := m) (lim := 1048576)) ?_
    rintro ⟨gj3, R3, c3⟩ -
    refine go_Jz ?_
    refine sl_call rfl rfl (by kernel_rfl) rfl Sub.refl hs00 ?_
    rintro _ -
    refine go_Jz ?_
    refine sl_call rfl rfl (by kernel_rfl) rfl Sub.refl hs00 ?_
    rintro _ -
    refine go_Jz ?_
    exact se_ret1 () trivial rfl rfl (by exact sub_)
  have hll : ∀ y ∈ xs.map Bx.l, y.length ≤ 200 := fun y hy => by
    obtain ⟨z, hz, rfl⟩ := List.mem_map.1 hy
    exact hall z hz
  have hca : cellsA (xs.map Bx.l) ≤ 15 * 201 := by
    have h1 := cellsA_le hll
    have h2 : (xs.map Bx.l).length * (200 + 1) ≤ 15 * (200 + 1) := Nat.mul_le_mul_right _ (by rw [List.length_map]; omega)
    omega
  have hlb : ∀ y ∈ xs.map Bx.l, IsBytes y := fun y hy => by
    obtain ⟨z, hz, rfl⟩ := List.mem_map.1 hy
    exact (hx.el z hz).2.1
  have hal := allL_len (xs.map Bx.l)
  have hfl : f.l.length = cellsA (xs.map Bx.l) * 64 := by rw [f2, hal]
  refine go_Jz ?_
  refine sl_call rfl rfl (by kernel_rfl) rfl Sub.refl (crash_one (f := f) f3 (by omega)) ?_
  rintro q1 ⟨e1, e2, e3⟩
  obtain ⟨m1, m2⟩ := crN_le (keep := (k : Int) % 1000) f3
  generalize crN ((k : Int) % 1000) f.l f.sy = mm at e2 e3 m1 m2
  obtain ⟨r, hW⟩ := whole_ex (ls := xs.map Bx.l) (m := mm) (by omega)
  have hsr : sn ≤ r := hW.le (by omega) (by rw [List.length_map]; exact hsn)
  have hrl : r ≤ xs.length := by have := hW.hr; rwa [List.length_map] at this
  have hq1l : q1.l.length = mm := by rw [e2, List.length_take]; omega
  refine go_Jz ?_
  refine sl_call rfl rfl (by kernel_rfl) rfl Sub.refl (open_cut (f := q1) (mm := mm) (r := r) (ls := xs.map Bx.l) (e1.trans f1) (by rw [e2, f2]) (by omega) (by omega) hW (fun y hy => by have := hll y hy; omega) hlb (by omega)) ?_
  rintro ⟨gj2, p, q2⟩ ⟨⟨hp1, hp2⟩, hs2, hl2, hy2⟩
  dsimp only at hp1 hp2 hs2 hl2 hy2 ⊢
  have hlo := hW.lo
  have hlr : ∀ x ∈ (xs.map Bx.l).take r, x.length ≤ 65536 := fun y hy => by have := hll y (List.mem_of_mem_take hy); omega
  have hlrb : ∀ x ∈ (xs.map Bx.l).take r, IsBytes x := fun y hy => hlb y (List.mem_of_mem_take hy)
  have hcr : cellsA ((xs.map Bx.l).take r) ≤ 16000 := by
    have h8 := cells_mono (ls := xs.map Bx.l) (a := r) (b := xs.length) hrl
    have h9 : (xs.map Bx.l).take xs.length = xs.map Bx.l := List.take_of_length_le (by simp)
    rw [h9] at h8
    omega
  have hpl : p.xs.length = r := by
    have := congrArg List.length hp1
    rw [List.length_map, List.length_take, List.length_map] at this
    omega
  have hsame1 : ∀ L : List Fa, Sub L [p.row, p.st] → Sub L [old w] → Fn Try.prog 17 #[.slice p.R p.xs.length p.c, .slice R (xs.take r).length cr] L (Ret (fun _ : Unit => True) (fun _ => .bool true) (fun _ => L)) := fun L h1 h2 => by
    have h3 := same_ok (c := p.c) (d := cr) ((SRow.ls (q := p) .here (.there .here) hp2).mono h1) ((hls.mono h2).take (m := r) hrl) (by rw [List.length_map, hpl]; omega)
    rw [decide_eq_true (by rw [SRow.ls_l (q := p), hp1, List.map_take]), List.length_map] at h3
    exact h3
  rw [List.length_take, Nat.min_eq_left hrl, ← hpl] at hsame1
  have hall2 := allL_len ((xs.map Bx.l).take r)
  generalize (xs.map Bx.l).take r = lr at hp1 hl2 hy2 hlr hlrb hcr hall2 hlo ⊢
  have hq2 : q2.sy = q2.l.length := by
    rw [hl2, hall2, hy2]
    split <;> omega
  refine go_Jz ?_
  refine sl_call rfl rfl (by kernel_rfl) rfl (by exact sub_) (crash_one (K := jC gj2 g sj (cellsA lr) :: p.row :: p.st :: [old w]) (g := g) (m := m) (ck := ck) (lim := 1048576) (f := q2) (by omega) (by rw [hl2, hall2]; omega)) ?_
  rintro q3 ⟨u1, u2, u3⟩
  have hcr0 : crN 0 q2.l q2.sy = q2.l.length := by
    obtain ⟨h1, h2⟩ := crN_le (keep := 0) (l := q2.l) (sy := q2.sy) (by omega)
    omega
  rw [hcr0] at u2 u3
  rw [List.take_length] at u2
  refine go_Jz ?_
  refine sl_call rfl rfl (by kernel_rfl) rfl Sub.refl (open_cut (f := q3) (mm := (allL lr).length) (r := lr.length) (ls := lr) (u1.trans hs2) (by rw [u2, hl2, List.take_length]) (Nat.le_refl _) (by rw [u2]; omega) ⟨Nat.le_refl _, by rw [List.take_length]; omega, fun h => absurd h (Nat.lt_irrefl _)⟩ hlr hlrb hcr) ?_
  rintro ⟨gj3, p3, q4⟩ ⟨⟨hv1, hv2⟩, -, -, -⟩
  dsimp only at hv1 hv2 ⊢
  rw [List.take_length] at hv1
  have hsame2 : ∀ L : List Fa, Sub L [p3.row, p3.st] → Sub L [p.row, p.st] → Fn Try.prog 17 #[.slice p3.R p3.xs.length p3.c, .slice p.R p.xs.length p.c] L (Ret (fun _ : Unit => True) (fun _ => .bool true) (fun _ => L)) := fun L h1 h2 => by
    have h4 : p3.xs.length = p.xs.length := by
      have e1 := congrArg List.length hp1
      have e2 := congrArg List.length hv1
      rw [List.length_map] at e1 e2
      omega
    have h3 := same_ok (c := p3.c) (d := p.c) ((SRow.ls (q := p3) .here (.there .here) hv2).mono h1) ((SRow.ls (q := p) .here (.there .here) hp2).mono h2) (by rw [List.length_map, h4, hpl]; omega)
    rw [decide_eq_true (by rw [SRow.ls_l (q := p), SRow.ls_l (q := p3), hp1, hv1]), List.length_map, List.length_map] at h3
    exact h3
  refine go_Jz ?_
  refine sl_call rfl rfl (by kernel_rfl) rfl Sub.refl (hsame1 _ (by exact sub_) (by exact sub_)) ?_
  rintro _ -
  refine go_Jz ?_
  refine sl_call rfl rfl (by kernel_rfl) rfl Sub.refl (hsame2 _ (by exact sub_) (by exact sub_)) ?_
  rintro _ -
  refine go_Jz ?_
  exact se_ret1 () trivial rfl rfl (by exact sub_)
theorem Crashes_v {v : Value} {a b : Int} {w : World} (ha : 0 ≤ a ∧ a ≤ 255) (hb : 0 ≤ b ∧ b ≤ 65535) (h : LsVC w v) : Calls Try.prog 10 #[v, .int .u8 a, .int .u16 b] w fun e w' => e = .returned (.bool true) ∧ Fr Nil w w' := by
  obtain ⟨s, rfl⟩ : ∃ s : Nat, a = s := ⟨a.toNat, by omega⟩
  obtain ⟨k, rfl⟩ : ∃ k : Nat, b = k := ⟨b.toNat, by omega⟩
  obtain ⟨R, c, xs, rfl, h1, h2, h3⟩ := h
  exact Fn.top (lawCrash_ok h1 h2 h3 (by omega) (by omega))
end Go.Proofs.Ytemhhhikopemmaa
