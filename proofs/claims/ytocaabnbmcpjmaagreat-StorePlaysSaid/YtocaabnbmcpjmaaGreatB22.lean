/- Several texts of one claim, one behind the other. -/
import Derived.Test.YtocaabnbmcpjmaaGreatB21
import Derived.Test.YtocaabnbmcpjmaaGreatB15
set_option linter.unusedVariables false
set_option linter.unusedSimpArgs false
set_option maxRecDepth 100000
set_option maxHeartbeats 16000000
namespace Go.Proofs.YtocaabnbmcpjmaaGreat
variable {φ ψ : Prop}
section
open Go.RowKit Go.MapKept
attribute [local irreducible] Go.Calls Go.Exit.then Go.Exit.inBlock Go.bodyPost Go.Code.wp Go.wpList takeL recordL hashL recL allL decR ofId
section
open pVm0
theorem copyD {K : List Fa} {t : Ta} {r : Rl} {lim : Int} {M : Md} {g3 c2 mw2 md2 mf2 : Nat} {A2 : Option Addr} {us1 : List Wt} {us2 : List Stx} (hp1 : us1.Perm M.ws) (hp2 : us2.Perm M.sd) :
  SC Tryz.prog (cAt [false, false, false, false] (fb Tryz.f29)) (bodyPost Tryz.prog Tryz.f29 (Ret (CopyOf M) (fun M' => .pointer (some ⟨M'.g, 0, none⟩)) (fun M' => mdF t r lim M' (mdF t r lim M K)))) 82 [(0, .pointer (some ⟨M.g, 0, none⟩)), (3, .pointer (some ⟨g3, 0, none⟩))] (blk g3 94 (mdC t r lim (.slice A2 M.ss.length c2) (some mw2) (some md2) (some mf2)) :: ixo A2 c2 M.ss :: wM mw2 (renW us1) us1.length :: sxM md2 (renS us2) us2.length :: bM mf2 [] 0 :: mdF t r lim M K) := by
 refine sc_know (kM_nodup (M := BM) (m := M.mf) (d := .int .u64) (fs := M.fs) (ck := M.cf) at_) ?_; rintro ⟨hndB, hksB⟩; refine go_ ?_; refine sl_range rfl at_ rfl rfl ?_; intro r0; refine go_ ?_; refine sc_bjoin (α := List BK) (fun us => [(3, .pointer (some ⟨g3, 0, none⟩))]) (fun us => blk g3 94 (mdC t r lim (.slice A2 M.ss.length c2) (some mw2) (some md2) (some mf2)) :: ixo A2 c2 M.ss :: wM mw2 (renW us1) us1.length :: sxM md2 (renS us2) us2.length :: bM mf2 (renB us) us.length :: mdF t r lim M K) (fun us => us.Perm M.fs) ?_ ?_
 ·refine sc_for (α := List BK) (fun us => [(3, .pointer (some ⟨g3, 0, none⟩)), (69, .pointer (some ⟨r0, 0, none⟩))]) (fun us => itr r0 M.mf M.cf (us.map BM.ent) :: blk g3 94 (mdC t r lim (.slice A2 M.ss.length c2) (some mw2) (some md2) (some mf2)) :: ixo A2 c2 M.ss :: wM mw2 (renW us1) us1.length :: sxM md2 (renS us2) us2.length :: bM mf2 (renB us) us.length :: mdF t r lim M K) (fun us => us.Nodup ∧ (∀ u ∈ us, u ∈ M.fs)) (fun us => M.fs.length - us.length) [] has_ sub_ ⟨List.nodup_nil, (fun _ h => by cases h)⟩ ?_; rintro us ⟨hun, hus⟩; refine sc_seq ?_; refine sc_region ?_; refine sl_next (g := M.mf) (ck := M.cf) (es := M.fs.map BM.ent) rfl at_ pick_ (fun y hy => by obtain ⟨u, hu, rfl⟩ := List.mem_map.1 hy; exact List.mem_map_of_mem (hus u hu)) rfl (fun hall => ?_) (fun y hy hn2 => ?_)
  ·have hp : us.Perm M.fs := (List.perm_ext_iff_of_nodup hun hndB).2 fun x => ⟨hus x, fun hx => by
     obtain ⟨u, hu, he⟩ := List.mem_map.1 (hall _ (List.mem_map_of_mem hx))
     rwa [← kent_inj (M := BM) hksB (hus u hu) hx he]⟩
   refine go_ ?_; exact se_mid us has_ sub_ hp
  ·obtain ⟨f, hf, rfl⟩ := List.mem_map.1 hy
   have hfu : f ∉ us := fun h => hn2 (List.mem_map_of_mem h)
   have hnd' : (us ++ [f]).Nodup := List.nodup_append.2 ⟨hun, List.nodup_cons.2 ⟨by simp, List.nodup_nil⟩, fun a ha b hb e => by rw [List.mem_singleton] at hb; exact hfu (by rw [← hb, ← e]; exact ha)⟩
   have hsub : ∀ u ∈ us ++ [f], u ∈ M.fs := fun u h => by
    rcases List.mem_append.1 h with h | h
    ·exact hus u h
    ·rw [List.mem_singleton] at h
     rw [h]; exact hf
   obtain ⟨z, hz⟩ := sub_splitK hnd' hndB hsub
   have hlen := hz.length_eq
   rw [List.length_append, List.length_append, List.length_singleton] at hlen
   have hm : us.map BM.ent ++ [BM.ent f] = (us ++ [f]).map BM.ent := by simp
   have hnky : ∀ u ∈ us, BM.key u ≠ BM.key f := fun u hu e => hfu (by rw [← pw_one (f := BM.key) hksB (hus u hu) hf e]; exact hu)
   have hval : (BM.ent f).val = .agg f.cells.toArray := rfl
   have hv : (BM.ent f).key = .int .u64 f.st := rfl
   refine go_ ?_; rw [hv, hval, hm]; refine go_ ?_; refine al_ ?_; intro g9; refine go_ ?_
   have hnk := renB_key (us := us) (x := f) hnky
   refine dr_ [blk g3 94 (mdC t r lim (.slice A2 M.ss.length c2) (some mw2) (some md2) (some mf2)), blk g9 70 f.cells] 7 ?_; refine y4_ 0 1 2 3 ?_; refine y2_ 4 5 ?_; refine w1_ 6 ?_; refine sl_knew (M := BM) (ck := us.length) (d := .int .u64) (f' := { f with bn := us.length }) (fs := renB us) (k := .int .u64 f.st) rfl rfl rfl rfl rfl hnk pick_ rfl rfl rfl ?_; refine vx_ ?_; rw [← renB_snoc]; rw [show us.length + 1 = (us ++ [f]).length by simp]; refine go_ ?_; exact se_round (us ++ [f]) has_ sub_ ⟨hnd', hsub⟩ (by rw [List.length_append, List.length_singleton]; omega)
 rintro us3 hp3; refine go_ ?_; exact se_ret1 ⟨g3, A2, c2, M.ss, mw2, us1.length, renW us1, md2, us2.length, renS us2, mf2, us3.length, renB us3⟩ ⟨rfl, by rw [renW_st0]; exact hp1.map _, by rw [renS_st0]; exact hp2.map _, by rw [renB_st0]; exact hp3.map _⟩ rfl rfl sub_
theorem copyC {K : List Fa} {t : Ta} {r : Rl} {lim : Int} {M : Md} {g3 c2 mw2 md2 mf2 : Nat} {A2 : Option Addr} {us1 : List Wt} (hp1 : us1.Perm M.ws) :
  SC Tryz.prog (cAt [false, false, false] (fb Tryz.f29)) (bodyPost Tryz.prog Tryz.f29 (Ret (CopyOf M) (fun M' => .pointer (some ⟨M'.g, 0, none⟩)) (fun M' => mdF t r lim M' (mdF t r lim M K)))) 82 [(0, .pointer (some ⟨M.g, 0, none⟩)), (3, .pointer (some ⟨g3, 0, none⟩))] (blk g3 94 (mdC t r lim (.slice A2 M.ss.length c2) (some mw2) (some md2) (some mf2)) :: ixo A2 c2 M.ss :: wM mw2 (renW us1) us1.length :: sxM md2 [] 0 :: bM mf2 [] 0 :: mdF t r lim M K) := by
 refine sc_know (kM_nodup (M := SXM) (m := M.md) (d := .array 16 5) (fs := M.sd) (ck := M.cd) at_) ?_; rintro ⟨hndS, hksS⟩; refine go_ ?_; refine sl_range rfl at_ rfl rfl ?_; intro r0; refine go_ ?_; refine sc_bjoin (α := List Stx) (fun us => [(0, .pointer (some ⟨M.g, 0, none⟩)), (3, .pointer (some ⟨g3, 0, none⟩))]) (fun us => blk g3 94 (mdC t r lim (.slice A2 M.ss.length c2) (some mw2) (some md2) (some mf2)) :: ixo A2 c2 M.ss :: wM mw2 (renW us1) us1.length :: sxM md2 (renS us) us.length :: bM mf2 [] 0 :: mdF t r lim M K) (fun us => us.Perm M.sd) ?_ ?_
 ·refine sc_for (α := List Stx) (fun us => [(0, .pointer (some ⟨M.g, 0, none⟩)), (3, .pointer (some ⟨g3, 0, none⟩)), (53, .pointer (some ⟨r0, 0, none⟩))]) (fun us => itr r0 M.md M.cd (us.map SXM.ent) :: blk g3 94 (mdC t r lim (.slice A2 M.ss.length c2) (some mw2) (some md2) (some mf2)) :: ixo A2 c2 M.ss :: wM mw2 (renW us1) us1.length :: sxM md2 (renS us) us.length :: bM mf2 [] 0 :: mdF t r lim M K) (fun us => us.Nodup ∧ (∀ u ∈ us, u ∈ M.sd)) (fun us => M.sd.length - us.length) [] has_ sub_ ⟨List.nodup_nil, (fun _ h => by cases h)⟩ ?_; rintro us ⟨hun, hus⟩; refine sc_seq ?_; refine sc_region ?_; refine sl_next (g := M.md) (ck := M.cd) (es := M.sd.map SXM.ent) rfl at_ pick_ (fun y hy => by obtain ⟨u, hu, rfl⟩ := List.mem_map.1 hy; exact List.mem_map_of_mem (hus u hu)) rfl (fun hall => ?_) (fun y hy hn2 => ?_)
  ·have hp : us.Perm M.sd := (List.perm_ext_iff_of_nodup hun hndS).2 fun x => ⟨hus x, fun hx => by
     obtain ⟨u, hu, he⟩ := List.mem_map.1 (hall _ (List.mem_map_of_mem hx))
     rwa [← kent_inj (M := SXM) hksS (hus u hu) hx he]⟩
   refine go_ ?_; exact se_mid us has_ sub_ hp
  ·obtain ⟨f, hf, rfl⟩ := List.mem_map.1 hy
   have hfu : f ∉ us := fun h => hn2 (List.mem_map_of_mem h)
   have hnd' : (us ++ [f]).Nodup := List.nodup_append.2 ⟨hun, List.nodup_cons.2 ⟨by simp, List.nodup_nil⟩, fun a ha b hb e => by rw [List.mem_singleton] at hb; exact hfu (by rw [← hb, ← e]; exact ha)⟩
   have hsub : ∀ u ∈ us ++ [f], u ∈ M.sd := fun u h => by
    rcases List.mem_append.1 h with h | h
    ·exact hus u h
    ·rw [List.mem_singleton] at h
     rw [h]; exact hf
   obtain ⟨z, hz⟩ := sub_splitK hnd' hndS hsub
   have hlen := hz.length_eq
   rw [List.length_append, List.length_append, List.length_singleton] at hlen
   have hm : us.map SXM.ent ++ [SXM.ent f] = (us ++ [f]).map SXM.ent := by simp
   have hnky : ∀ u ∈ us, SXM.key u ≠ SXM.key f := fun u hu e => hfu (by rw [← pw_one (f := SXM.key) hksS (hus u hu) hf e]; exact hu)
   have hval : (SXM.ent f).val = .string (strOfNums f.l) := rfl
   have hv : (SXM.ent f).key = f.id.v := rfl
   refine go_ ?_; rw [hv, hval, hm]; refine go_ ?_; refine al_ ?_; intro g6; refine go_ ?_
   have hnk := renS_key (us := us) (x := f) hnky
   refine dr_ [blk g3 94 (mdC t r lim (.slice A2 M.ss.length c2) (some mw2) (some md2) (some mf2)), blk g6 47 (bytes f.id.l)] 7 ?_; refine y4_ 0 1 2 3 ?_; refine y2_ 4 5 ?_; refine w1_ 6 ?_; refine sl_knewK (M := SXM) (ck := us.length) (f' := { f with bn := us.length }) (fs := renS us) (k := f.id.v) rfl rfl rfl rfl rfl hnk pick_ rfl f.id.klaw ?_; refine vx_ ?_; rw [← renS_snoc]; rw [show us.length + 1 = (us ++ [f]).length by simp]; refine go_ ?_; exact se_round (us ++ [f]) has_ sub_ ⟨hnd', hsub⟩ (by rw [List.length_append, List.length_singleton]; omega)
 rintro us2 hp2; exact copyD hp1 hp2
theorem copyB {K : List Fa} {t : Ta} {r : Rl} {lim : Int} {M : Md} {g3 c2 mw2 md2 mf2 : Nat} {A2 : Option Addr} :
  SC Tryz.prog (cAt [false, false] (fb Tryz.f29)) (bodyPost Tryz.prog Tryz.f29 (Ret (CopyOf M) (fun M' => .pointer (some ⟨M'.g, 0, none⟩)) (fun M' => mdF t r lim M' (mdF t r lim M K)))) 82 [(0, .pointer (some ⟨M.g, 0, none⟩)), (3, .pointer (some ⟨g3, 0, none⟩))] (blk g3 94 (mdC t r lim (.slice A2 M.ss.length c2) (some mw2) (some md2) (some mf2)) :: ixo A2 c2 M.ss :: wM mw2 [] 0 :: sxM md2 [] 0 :: bM mf2 [] 0 :: mdF t r lim M K) := by
 refine sc_know (kM_nodup (M := WM) (m := M.mw) (d := .array 16 5) (fs := M.ws) (ck := M.cw) at_) ?_; rintro ⟨hndW, hksW⟩; refine go_ ?_; refine sl_range rfl at_ rfl rfl ?_; intro r0; refine go_ ?_; refine sc_bjoin (α := List Wt) (fun us => [(0, .pointer (some ⟨M.g, 0, none⟩)), (3, .pointer (some ⟨g3, 0, none⟩))]) (fun us => blk g3 94 (mdC t r lim (.slice A2 M.ss.length c2) (some mw2) (some md2) (some mf2)) :: ixo A2 c2 M.ss :: wM mw2 (renW us) us.length :: sxM md2 [] 0 :: bM mf2 [] 0 :: mdF t r lim M K) (fun us => us.Perm M.ws) ?_ ?_
 ·refine sc_for (α := List Wt) (fun us => [(0, .pointer (some ⟨M.g, 0, none⟩)), (3, .pointer (some ⟨g3, 0, none⟩)), (37, .pointer (some ⟨r0, 0, none⟩))]) (fun us => itr r0 M.mw M.cw (us.map WM.ent) :: blk g3 94 (mdC t r lim (.slice A2 M.ss.length c2) (some mw2) (some md2) (some mf2)) :: ixo A2 c2 M.ss :: wM mw2 (renW us) us.length :: sxM md2 [] 0 :: bM mf2 [] 0 :: mdF t r lim M K) (fun us => us.Nodup ∧ (∀ u ∈ us, u ∈ M.ws)) (fun us => M.ws.length - us.length) [] has_ sub_ ⟨List.nodup_nil, (fun _ h => by cases h)⟩ ?_; rintro us ⟨hun, hus⟩; refine sc_seq ?_; refine sc_region ?_; refine sl_next (g := M.mw) (ck := M.cw) (es := M.ws.map WM.ent) rfl at_ pick_ (fun y hy => by obtain ⟨u, hu, rfl⟩ := List.mem_map.1 hy; exact List.mem_map_of_mem (hus u hu)) rfl (fun hall => ?_) (fun y hy hn2 => ?_)
  ·have hp : us.Perm M.ws := (List.perm_ext_iff_of_nodup hun hndW).2 fun x => ⟨hus x, fun hx => by
     obtain ⟨u, hu, he⟩ := List.mem_map.1 (hall _ (List.mem_map_of_mem hx))
     rwa [← kent_inj (M := WM) hksW (hus u hu) hx he]⟩
   refine go_ ?_; exact se_mid us has_ sub_ hp
  ·obtain ⟨f, hf, rfl⟩ := List.mem_map.1 hy
   have hfu : f ∉ us := fun h => hn2 (List.mem_map_of_mem h)
   have hnd' : (us ++ [f]).Nodup := List.nodup_append.2 ⟨hun, List.nodup_cons.2 ⟨by simp, List.nodup_nil⟩, fun a ha b hb e => by rw [List.mem_singleton] at hb; exact hfu (by rw [← hb, ← e]; exact ha)⟩
   have hsub : ∀ u ∈ us ++ [f], u ∈ M.ws := fun u h => by
    rcases List.mem_append.1 h with h | h
    ·exact hus u h
    ·rw [List.mem_singleton] at h
     rw [h]; exact hf
   obtain ⟨z, hz⟩ := sub_splitK hnd' hndW hsub
   have hlen := hz.length_eq
   rw [List.length_append, List.length_append, List.length_singleton] at hlen
   have hm : us.map WM.ent ++ [WM.ent f] = (us ++ [f]).map WM.ent := by simp
   have hnky : ∀ u ∈ us, WM.key u ≠ WM.key f := fun u hu e => hfu (by rw [← pw_one (f := WM.key) hksW (hus u hu) hf e]; exact hu)
   have hval : (WM.ent f).val = .agg f.cells.toArray := rfl
   have hv : (WM.ent f).key = f.id.v := rfl
   refine go_ ?_; rw [hv, hval, hm]; refine go_ ?_; refine al_ ?_; intro g4; refine al_ ?_; intro g5; refine go_ ?_
   have hnk := renW_key (us := us) (x := f) hnky
   refine dr_ [blk g3 94 (mdC t r lim (.slice A2 M.ss.length c2) (some mw2) (some md2) (some mf2)), blk g4 47 (bytes f.id.l), blk g5 49 f.cells] 7 ?_; refine y4_ 0 1 2 3 ?_; refine y2_ 4 5 ?_; refine w1_ 6 ?_; refine sl_knewK (M := WM) (ck := us.length) (f' := { f with bn := us.length }) (fs := renW us) (k := f.id.v) rfl rfl rfl rfl rfl hnk pick_ rfl f.id.klaw ?_; refine vx_ ?_; rw [← renW_snoc]; rw [show us.length + 1 = (us ++ [f]).length by simp]; refine go_ ?_; exact se_round (us ++ [f]) has_ sub_ ⟨hnd', hsub⟩ (by rw [List.length_append, List.length_singleton]; omega)
 rintro us1 hp1; exact copyC hp1
theorem mcopied_ok {K : List Fa} {t : Ta} {r : Rl} {lim : Int} {M : Md} (hn : M.ss.length ≤ 1000) :
  Fn Tryz.prog 29 #[.pointer (some ⟨M.g, 0, none⟩)] (mdF t r lim M K) (Ret (CopyOf M) (fun M' => .pointer (some ⟨M'.g, 0, none⟩)) (fun M' => mdF t r lim M' (mdF t r lim M K))) := by
 refine fe_ Tryz.func29 Tryz.ntmps29 [(0, .pointer (some ⟨M.g, 0, none⟩))] ?_; refine sc_seq ?_; refine sc_region ?_
 repeat refine su_ ?_
 refine sl_nil ?_; refine se_seq ?_; refine sc_env [(0, .pointer (some ⟨M.g, 0, none⟩))] has_ ?_; exact copyA hn nop_ (fun g3 A2 c2 mw2 md2 mf2 => copyB)
end
end
section
open Go.RowKit Go.MapKept
attribute [local irreducible] Go.Calls Go.Exit.then Go.Exit.inBlock Go.bodyPost Go.Code.wp Go.wpList hashL ofId
section
theorem id_nums (k : Id) : bytes k.l = nums .u8 k.l := rfl
namespace pGo
theorem nthx_ (h : φ := by first | exact tc_n0 | exact tc_n1) : φ := h
theorem midx_ (h : φ := by first | exact tc_mid | exact Mid.all) : φ := h
theorem szx_ (h : φ := by ((try simp only [tc_len, bytes_length, Id.len]); (first | done | rfl); first | done | fail)) : φ := h
theorem onex_ (h : φ := by first | exact u2_one _ _ | exact tc_one | exact one_bytes _) : φ := h
end pGo
open pGo
def In64 (a : Int) : Prop := 0 ≤ a ∧ a < 18446744073709551616
theorem el_of {a b : Int} (ha : In64 a) (hb : In64 b) : ∃ v, El v ∧ [Value.int .u64 a, .int .u64 b] = eC v := ⟨_, El.of ha hb, eC_of ha⟩
end
attribute [local irreducible] takeL recordL recL allL decR
section
def posM (ss : List Seen) (id : Id) : Int := match ss.findIdx? (fun s => decide (s.id.l = id.l)) with
 | some i => (i : Nat)
 | none => -1
theorem posM_hit {ss : List Seen} {id : Id} {j : Nat} {s : Seen} (h : ss[j]? = some s) (hs : s.id.l = id.l) (hk : ∀ k u, k < j → ss[k]? = some u → u.id.l ≠ id.l) : posM ss id = j := by
 obtain ⟨hj, e⟩ := List.getElem?_eq_some_iff.1 h
 have : ss.findIdx? (fun s => decide (s.id.l = id.l)) = some j := List.findIdx?_eq_some_iff_getElem.2 ⟨hj, by rw [e]; simpa using hs, fun k hk' => by
   have := hk k ss[k] hk' (List.getElem?_eq_getElem (by omega))
   simpa using this⟩
 unfold posM
 rw [this]
theorem posM_no {ss : List Seen} {id : Id} (h : ∀ u ∈ ss, u.id.l ≠ id.l) : posM ss id = -1 := by
 have : ss.findIdx? (fun s => decide (s.id.l = id.l)) = none := List.findIdx?_eq_none_iff.2 fun u hu => by simpa using h u hu
 unfold posM
 rw [this]
theorem posM_split {ss : List Seen} {id : Id} {s : Seen} (h : kf sk_ ss id.l = some s) : ∃ X Y, ss = X ++ s :: Y ∧ s.id = id ∧ posM ss id = (X.length : Nat) := by
 obtain ⟨h1, X, Y, rfl, h3⟩ := List.find?_eq_some_iff_append.1 h
 have h1' : s.id.l = id.l := of_decide_eq_true h1
 refine ⟨X, Y, rfl, Id.ext_ h1', posM_hit (s := s) (by simp) h1' fun k u hk hu => ?_⟩
 rw [List.getElem?_append_left hk] at hu
 intro e
 have h5 := h3 u (List.mem_of_getElem? hu)
 rw [show decide (sk_ u = id.l) = true from decide_eq_true e] at h5
 cases h5
theorem pu_eqId {C : World → Prop} {n : Nat} {l : Env} {ty t' : TypeId} {x y : Operand} {a b : Id} (hx : ev l x = some (.agg (bytes a.l).toArray)) (hy : ev l y = some (.agg (bytes b.l).toArray)) : Pu Tryz.prog C n l (.binOp .eql 47 x y t') ty (.bool (decide (a.l = b.l))) := by
 rw [id_nums] at hx hy
 exact pu_eqla (P := Tryz.prog) (C := C) (n := n) (ty := ty) (t' := t') (t := 47) (N := 16) (e := 5) (k' := .u8) (k := .u8) (xs := a.l) (ys := b.l) hx hy rfl rfl rfl (by kernel_rfl) a.len b.len
theorem sn_mid {ss : List Seen} {i : Nat} {s : Seen} (hs : ss[i]? = some s) : Mid (rows Seen.cells ss) (i * 18) s.cells := rows_mid Seen.len hs
theorem rows_one_snoc (ss : List Seen) (s : Seen) : rows Seen.cells ss ++ s.cells = rows Seen.cells (ss ++ [s]) := by
 rw [rows_app, rows_cons]
 show _ = _ ++ (s.cells ++ [])
 rw [List.append_nil]
namespace pVm2
theorem nthx_ (h : φ := by first | exact bkC_n0 | exact bkC_n1 | exact bkC_n2 | exact bkC_n19' | exact tc_n0 | exact tc_n1 | exact rpC_n16 | exact rpC_n17 | exact rpC_n18 | exact Seen.nt _ | exact Seen.nc _ | rfl) : φ := h
theorem midx_ (h : φ := by first | exact mdC_t | exact mdC_r | exact rpC_id | exact bkC_mid | exact tc_mid | exact Seen.mid _ | exact sn_mid (by assumption) | exact Mid.all) : φ := h
theorem szx_ (h : φ := by ((try simp only [Wt.cells, rpC_len, bytes_length, Id.len, BK.len, mdC_len, bkC_len tc_len, tc_len, Seen.len]); (first | done | rfl); first | done | fail)) : φ := h
theorem onex_ (h : φ := by first | exact mdC_one rfl | exact one_bytes _ | exact rpC_one rfl rfl | exact BK.one _ | exact Seen.one _ | exact bkC_one tc_one | exact tc_one) : φ := h
theorem setx_ (h : φ := by first | exact mdC_set | exact bkC_set19 tc_len) : φ := h
theorem sux_ (k : ψ) (h : Hide ψ → φ := by (intro k; (refine sl_pu (pu_eqId rfl rfl) rfl ?_); exact k.out)) : φ := h ⟨k⟩
end pVm2
open pVm2
theorem mfind_ok {K : List Fa} {t : Ta} {r : Rl} {lim : Int} {M : Md} (id : Id) (hn : M.ss.length ≤ 1000) :
  Fn Tryz.prog 81 #[.pointer (some ⟨M.g, 0, none⟩), id.v] (mdF t r lim M K) (Ret (fun _ : Unit => True) (fun _ => .int .i64 (posM M.ss id)) (fun _ => mdF t r lim M K)) := by
 refine fe_ Tryz.func81 Tryz.ntmps81 [(0, .pointer (some ⟨M.g, 0, none⟩)), (1, id.v)] ?_; refine go_ ?_; refine bx_ ?_; intro g3; refine go_ ?_; refine sc_for (α := Nat) (fun j => [(3, .pointer (some ⟨g3, 0, none⟩)), (10, .slice M.sA M.ss.length M.sc), (11, .int .i64 M.ss.length), (12, .int .i64 j)]) (fun _ => blk g3 47 (bytes id.l) :: mdF t r lim M K) (fun j => j ≤ M.ss.length ∧ ∀ k u, k < j → M.ss[k]? = some u → u.id.l ≠ id.l) (fun j => M.ss.length - j) 0 has_ sub_ ⟨Nat.zero_le _, fun k u hk => absurd hk (Nat.not_lt_zero _)⟩ ?_; rintro j ⟨hj, hall⟩
 by_cases hlt : j < M.ss.length
 case neg =>
  have hno : posM M.ss id = -1 := posM_no fun u hu => by
   obtain ⟨k, hk⟩ := List.getElem?_of_mem hu
   exact hall k u (by have := (List.getElem?_eq_some_iff.1 hk).1; omega) hk
  rw [hno]; refine go_ ?_; exact r1_ ()
 obtain ⟨s, hs⟩ : ∃ s, M.ss[j]? = some s := ⟨_, List.getElem?_eq_getElem hlt⟩
 obtain ⟨A, hA⟩ : ∃ A, M.sA = A := ⟨_, rfl⟩
 rw [hA]; refine sc_form (e := 62) (size := 18) (A := A) (m := M.ss.length) (c := M.sc) (xs := rows Seen.cells M.ss) (by rw [← hA]; exact at_) (by omega) ?_; rintro g0 rfl
 have hmid := sn_mid hs
 refine go_ ?_; refine sl_pu (pu_ldrs (Vw.of_own (e := 62) (A := some ⟨g0, 0, none⟩) (c := M.sc) (by rw [← hA]; exact at_)) (by omega) rfl hmid rfl rfl (by rw [Seen.len]; rfl)) rfl ?_; refine go_ ?_; refine al_ ?_; intro g6; refine go_ ?_
 by_cases he : s.id.l = id.l
 ·rw [decide_eq_true he]
  have hp := posM_hit hs he hall
  rw [hp]; refine go_ ?_; exact r1_ ()
 ·rw [decide_eq_false he]; refine go_ ?_
  exact se_round (j + 1) has_ sub_ ⟨hlt, fun k u hk hu => by
    rcases Nat.lt_or_ge k j with h1 | h1
    · exact hall k u h1 hu
    · obtain rfl : k = j := by omega
      rw [hs] at hu
      cases hu
      exact he⟩ (by omega)
theorem o1_Vm2 (k : ψ) (h : Hide ψ → φ := by (intro k; refine slc_ rfl rfl sub_ (start_ok hw ⟨h.1, by omega⟩) ?_; exact k.out)) : φ := h ⟨k⟩
theorem o2_Vm2 (h : φ := by exact se_mid g5 has_ sub_ trivial) : φ := h
theorem o3_Vm2 (h : φ := by exact r1_ ()) : φ := h
theorem e1_Vm2 (h : φ := by (refine vy_ 11 ?_; refine y2_ 12 13 ?_; refine w1_ 15 ?_; refine sto_ ?_; refine vy_ 16 ?_; refine wx_ ?_; exact o2_Vm2)) : φ := h
theorem mfits_ok {K : List Fa} {t : Ta} {r : Rl} {lim now : Int} {M : Md} (hw : 0 ≤ r.w) (h : 0 ≤ now ∧ now ≤ 1099511627776) :
  Fn Tryz.prog 78 #[.pointer (some ⟨M.g, 0, none⟩), .int .u64 now] (mdF t r lim M K) (Ret (fun _ : Unit => True) (fun _ => .int .i64 (fitsE r M.fs now)) (fun _ => mdF t r lim M K)) := by
 refine fe_ Tryz.func78 Tryz.ntmps78 [(0, .pointer (some ⟨M.g, 0, none⟩)), (1, .int .u64 now)] ?_
 have h1 : ¬ 1099511627776 < now := by omega
 have hml : ((M.fs.map BM.ent).length : Int) = M.fs.length := by rw [List.length_map]
 cases hf : bfind M.fs (stN r.w now) with
 | none =>
  have hno := bno hf
  rw [show fitsE r M.fs now = if M.fs.length = 32 then 5 else if r.mx ≤ 0 then 18 else 0 by unfold fitsE; rw [if_neg h1, hf]]; refine go_ ?_; refine sc_join (α := Nat) (fun g5 => [(0, .pointer (some ⟨M.g, 0, none⟩)), (5, .pointer (some ⟨g5, 0, none⟩)), (6, .bool false)]) (fun g5 => blk g5 70 bzL :: mdF t r lim M K) (fun _ => True) ?_ ?_
  ·refine dr_ [mdB t r lim M, bM M.mf M.fs M.cf] 17 ?_; refine y4_ 0 1 2 3 ?_; refine y4_ 4 5 6 7 ?_; refine wy_ 8 ?_; refine w2_ 9 14 ?_ ?_
   ·refine o1_Vm2 ?_; rintro _ -; refine v2_ 10 14 ?_ ?_
    ·repeat refine su_ ?_
     refine vy_ 11 ?_; refine y2_ 12 13 ?_; refine w1_ 14 ?_; refine al_ ?_; intro g5; refine v1_ 15 ?_; refine sto_ ?_; refine vy_ 16 ?_; refine wx_ ?_; exact o2_Vm2
    ·refine al_ ?_; intro g5; refine v1_ 10 ?_
     repeat refine su_ ?_
     exact e1_Vm2
   ·refine al_ ?_; intro g5; refine v1_ 9 ?_; refine o1_Vm2 ?_; rintro _ -; refine v1_ 10 ?_
    repeat refine su_ ?_
    exact e1_Vm2
  rintro g5 -
  by_cases h2 : M.fs.length = 32
  ·rw [if_pos h2]
   have h3 : ((M.fs.map BM.ent).length : Int) = 32 := by rw [hml, h2]; rfl
   refine go_ ?_; exact o3_Vm2
  rw [if_neg h2]
  have h3 : ((M.fs.map BM.ent).length : Int) ≠ 32 := by rw [hml]; omega
  by_cases h4 : r.mx ≤ 0
  ·rw [if_pos h4]; refine go_ ?_
   ((refine sq_region (by kernel_rfl) (by kernel_rfl) ?_; (repeat refine rq_ ?_); refine sq_end ?_))
   refine go_ ?_; exact o3_Vm2
  ·rw [if_neg h4]; refine go_ ?_
   ((refine sq_region (by kernel_rfl) (by kernel_rfl) ?_; (repeat refine rq_ ?_); refine sq_end ?_))
   refine go_ ?_; exact o3_Vm2
 | some b =>
  obtain ⟨hb, hbs⟩ := bfind_some hf
  have hg := bget hb
  rw [hbs] at hg
  rw [show fitsE r M.fs now = if b.cl then 16 else if r.mx ≤ b.m then 18 else 0 by unfold fitsE; rw [if_neg h1, hf]]; refine go_ ?_; refine sc_join (α := Nat) (fun g5 => [(0, .pointer (some ⟨M.g, 0, none⟩)), (5, .pointer (some ⟨g5, 0, none⟩)), (6, .bool true)]) (fun g5 => blk g5 70 (bkC (stN r.w now) (tc b.A b.l.length b.c b.m b.k) b.cl) :: mdF t r lim M K) (fun _ => True) ?_ ?_
  ·refine dr_ [mdB t r lim M, bM M.mf M.fs M.cf] 17 ?_; refine y4_ 0 1 2 3 ?_; refine y4_ 4 5 6 7 ?_; refine wy_ 8 ?_; refine w2_ 9 14 ?_ ?_
   ·refine o1_Vm2 ?_; rintro _ -; refine v2_ 10 14 ?_ ?_
    ·repeat refine su_ ?_
     refine vy_ 11 ?_; refine y2_ 12 13 ?_; refine w1_ 14 ?_; refine al_ ?_; intro g5; refine v1_ 15 ?_; refine sto_ ?_; refine vy_ 16 ?_; refine wx_ ?_; exact o2_Vm2
    ·refine al_ ?_; intro g5; refine v1_ 10 ?_
     repeat refine su_ ?_
     exact e1_Vm2
   ·refine al_ ?_; intro g5; refine v1_ 9 ?_; refine o1_Vm2 ?_; rintro _ -; refine v1_ 10 ?_
    repeat refine su_ ?_
    exact e1_Vm2
  rintro g5 -
  cases hc : b.cl with
  | true =>
   rw [if_pos rfl]; refine go_ ?_; exact o3_Vm2
  | false =>
   rw [if_neg (by decide)]
   by_cases h4 : r.mx ≤ b.m
   ·rw [if_pos h4]; refine go_ ?_
    ((refine sq_region (by kernel_rfl) (by kernel_rfl) ?_; (repeat refine rq_ ?_); refine sq_end ?_))
    refine go_ ?_; exact o3_Vm2
   ·rw [if_neg h4]; refine go_ ?_
    ((refine sq_region (by kernel_rfl) (by kernel_rfl) ?_; (repeat refine rq_ ?_); refine sq_end ?_))
    refine go_ ?_; exact o3_Vm2
def maccE (r : Rl) (lim : Int) (M : Md) (id : Id) (tm : Int) : Int := if 0 ≤ posM M.ss id then 14 else if lim ≤ M.ss.length then 18 else fitsE r M.fs tm
def Md.acc (M : Md) (A : Option Addr) (c : Nat) (sn : Seen) (w : Wt) : Md := { M with sA := A, sc := c, ss := M.ss ++ [sn], ws := M.ws ++ [w], cw := M.cw + 1 }
theorem maccept_no {K : List Fa} {t : Ta} {r : Rl} {lim tm : Int} {M : Md} {id : Id} {P S : Value} (hP : P.oneCell' = true) (hS : S.oneCell' = true) (hw : 0 ≤ r.w) (ht : 0 ≤ tm ∧ tm ≤ 1099511627776) (hn : M.ss.length ≤ 1000) (he : maccE r lim M id tm ≠ 0) :
  Fn Tryz.prog 34 #[.pointer (some ⟨M.g, 0, none⟩), .agg (rpC id tm P S).toArray] (mdF t r lim M K) (Ret (fun _ : Unit => True) (fun _ => .int .i64 (maccE r lim M id tm)) (fun _ => mdF t r lim M K)) := by
 refine fe_ Tryz.func34 Tryz.ntmps34 [(0, .pointer (some ⟨M.g, 0, none⟩)), (1, .agg (rpC id tm P S).toArray)] ?_; refine go_ ?_; refine bx_ ?_; intro g3; refine go_ ?_; refine slc_ rfl rfl sub_ (mfind_ok (K := blk g3 49 (rpC id tm P S) :: K) (t := t) (r := r) (lim := lim) (M := M) id hn) ?_; rintro _ -
 by_cases h1 : 0 ≤ posM M.ss id
 ·rw [show maccE r lim M id tm = 14 by unfold maccE; rw [if_pos h1]]; refine go_ ?_; exact r1_ ()
 by_cases h2 : lim ≤ M.ss.length
 ·rw [show maccE r lim M id tm = 18 by unfold maccE; rw [if_neg h1, if_pos h2]]; refine go_ ?_
  ((refine sq_region (by kernel_rfl) (by kernel_rfl) ?_; (repeat refine rq_ ?_); refine sq_end ?_))
  refine go_ ?_; exact r1_ ()
 rw [show maccE r lim M id tm = fitsE r M.fs tm by unfold maccE; rw [if_neg h1, if_neg h2]] at he ⊢
 refine go_ ?_
 ((refine sq_region (by kernel_rfl) (by kernel_rfl) ?_; (repeat refine rq_ ?_); refine sq_end ?_))
 refine go_ ?_; refine slc_ rfl rfl sub_ (mfits_ok (K := blk g3 49 (rpC id tm P S) :: K) (t := t) (r := r) (lim := lim) (M := M) hw ht) ?_; rintro _ -; refine go_ ?_; exact r1_ ()
theorem maccept_ok {K : List Fa} {t : Ta} {r : Rl} {lim tm : Int} {M : Md} {id : Id} {pA sA : Option Addr} {pc sc : Nat} {p s : List Int} (hw : 0 ≤ r.w) (ht : 0 ≤ tm ∧ tm ≤ 1099511627776) (ht2 : 0 ≤ tm ∧ tm ≤ 18446744073709551615) (hn : M.ss.length ≤ 999) (he : maccE r lim M id tm = 0) (hwn : wfind M.ws id = none) :
  Fn Tryz.prog 34 #[.pointer (some ⟨M.g, 0, none⟩), .agg (rpC id tm (.slice pA p.length pc) (.slice sA s.length sc)).toArray] (mdF t r lim M K) (Ret (fun _ : Option Addr × Nat => True) (fun _ => .int .i64 0)
    (fun z => mdF t r lim (M.acc z.1 z.2 ⟨id, tm, 30, ht2, by decide⟩ ⟨id, tm, pA, pc, p, sA, sc, s, M.cw⟩) K)) := by
 refine fe_ Tryz.func34 Tryz.ntmps34 [(0, .pointer (some ⟨M.g, 0, none⟩)), (1, .agg (rpC id tm (.slice pA p.length pc) (.slice sA s.length sc)).toArray)] ?_
 obtain ⟨sn, hsn⟩ : ∃ sn : Seen, sn = ⟨id, tm, 30, ht2, by decide⟩ := ⟨_, rfl⟩
 have hsv : sn.v = .agg (bytes id.l ++ [Value.int .u64 tm, Value.int .i64 30]).toArray := by rw [hsn]; rfl
 rw [← hsn]
 have hnk := wfind_none hwn
 have h1 : ¬ 0 ≤ posM M.ss id := fun h => by unfold maccE at he; rw [if_pos h] at he; cases he
 have h2 : ¬ lim ≤ M.ss.length := fun h => by unfold maccE at he; rw [if_neg h1, if_pos h] at he; cases he
 have h3 : fitsE r M.fs tm = 0 := by unfold maccE at he; rw [if_neg h1, if_neg h2] at he; exact he
 refine go_ ?_; refine bx_ ?_; intro g3; refine go_ ?_; refine slc_ rfl rfl sub_ (mfind_ok (K := blk g3 49 (rpC id tm (.slice pA p.length pc) (.slice sA s.length sc)) :: K) (t := t) (r := r) (lim := lim) (M := M) id (by omega)) ?_; rintro _ -; refine go_ ?_
 ((refine sq_region (by kernel_rfl) (by kernel_rfl) ?_; (repeat refine rq_ ?_); refine sq_end ?_))
 refine go_ ?_; refine slc_ rfl rfl sub_ (mfits_ok (K := blk g3 49 (rpC id tm (.slice pA p.length pc) (.slice sA s.length sc)) :: K) (t := t) (r := r) (lim := lim) (M := M) hw ht) ?_; rintro _ -; rw [h3]; refine go_ ?_; refine sc_join (α := Option Addr × Nat) (fun _ => [(0, .pointer (some ⟨M.g, 0, none⟩)), (3, .pointer (some ⟨g3, 0, none⟩))]) (fun z => blk M.g 94 (mdC t r lim (.slice z.1 (M.ss.length + 1) z.2) (some M.mw) (some M.md) (some M.mf)) :: own 62 18 z.1 (M.ss.length + 1) z.2 (rows Seen.cells (M.ss ++ [sn])) :: blk g3 49 (rpC id tm (.slice pA p.length pc) (.slice sA s.length sc)) :: wM M.mw M.ws M.cw :: sxM M.md M.sd M.cd :: bM M.mf M.fs M.cf :: K) (fun _ => True) ?_ ?_
 ·refine sd_drawn (fun W => AllP W [mdB t r lim M, blk g3 49 (rpC id tm (.slice pA p.length pc) (.slice sA s.length sc))]) (fun i => !(List.contains [14] i)) (by kernel_rfl) 15 rfl ?_; refine y4_ 0 1 2 3 ?_; refine y4_ 4 5 6 7 ?_; refine wy_ 8 ?_; refine w1_ 9 ?_; refine sl_pu (pu_build (v := sn.v) rfl (by rw [hsv]; exact build_seen3 id tm 30)) rfl ?_; refine v1_ 10 ?_; refine sl_build (size := 18) (e := 62) (cells := sn.cells) rfl (fun W => build_seen sn W) (by rw [sn.len]) (by decide) rfl ?_; intro g1; refine v1_ 11 ?_; refine sl_app rfl pick_ rfl (Vw.of_own (A := some ⟨g1, 0, none⟩) (c := 1) (e := 62) at_) sn.one rfl Tryz.infoSeen (by decide) (by decide) rfl (by unfold maxLen; omega) (by omega) ?_; intro A2 c2; rw [rows_one_snoc M.ss sn]; refine vy_ 12 ?_; refine wy_ 13 ?_; refine w1_ 14 ?_; refine sto_ ?_; refine sl_nil ?_; refine se_sd (fun h => absurd h (by decide)) ?_; refine wx_ ?_; exact se_mid (A2, c2) has_ sub_ trivial
 rintro ⟨A2, c2⟩ -; dsimp only; refine go_ ?_; refine dr_ [blk M.g 94 (mdC t r lim (.slice A2 (M.ss.length + 1) c2) (some M.mw) (some M.md) (some M.mf)), blk g3 49 (rpC id tm (.slice pA p.length pc) (.slice sA s.length sc))] 8 ?_; refine y4_ 0 1 2 3 ?_; refine y2_ 4 5 ?_; refine wy_ 6 ?_; refine w1_ 7 ?_; refine sl_knewK (M := WM) (f' := ⟨id, tm, pA, pc, p, sA, sc, s, M.cw⟩) (fs := M.ws) (k := id.v) rfl rfl rfl rfl rfl hnk pick_ rfl id.klaw ?_; refine vx_ ?_; refine go_ ?_; rw [show M.ss.length + 1 = (M.ss ++ [sn]).length by simp]; exact se_ret1 (A2, c2) trivial rfl rfl (by unfold Md.acc; exact sub_)
def mrejE (ws : List Wt) (id : Id) (c : Int) : Int := if (wfind ws id).isSome then (if c ≤ 0 ∨ c = 30 ∨ 31 < c then 10 else 0) else 19
theorem mreject_no {K : List Fa} {t : Ta} {r : Rl} {lim c : Int} {M : Md} {id : Id} (he : mrejE M.ws id c ≠ 0) :
  Fn Tryz.prog 33 #[.pointer (some ⟨M.g, 0, none⟩), id.v, .int .i64 c] (mdF t r lim M K) (Ret (fun _ : Unit => True) (fun _ => .int .i64 (mrejE M.ws id c)) (fun _ => mdF t r lim M K)) := by
 refine fe_ Tryz.func33 Tryz.ntmps33 [(0, .pointer (some ⟨M.g, 0, none⟩)), (1, id.v), (2, .int .i64 c)] ?_
 have hk := id.klaw
 cases hf : wfind M.ws id with
 | none =>
  have hno : MNo (M.ws.map WM.ent) id.v := kno (M := WM) (wfind_none hf)
  rw [show mrejE M.ws id c = 19 by unfold mrejE; rw [hf]; rfl]; refine go_ ?_; refine bx_ ?_; intro g4; refine go_ ?_; refine dr_ [mdB t r lim M, blk g4 47 (bytes id.l), wM M.mw M.ws M.cw] 12 ?_; refine y4_ 0 1 2 3 ?_; refine y4_ 4 5 6 7 ?_; refine wy_ 8 ?_; refine w1_ 9 ?_; refine al_ ?_; intro g7; refine v1_ 10 ?_; refine sto_ ?_; refine vy_ 11 ?_; refine wx_ ?_; refine go_ ?_; exact r1_ ()
 | some w =>
  obtain ⟨rfl, X, Y, hXY, hdel⟩ := wfind_split hf
  have hg : MGet (M.ws.map WM.ent) w.id.v (.agg w.cells.toArray) := kget (M := WM) (wfind_some hf).1
  have hor : c ≤ 0 ∨ c = 30 ∨ 31 < c := Decidable.byContradiction fun h => he (by unfold mrejE; rw [hf]; show (if c ≤ 0 ∨ c = 30 ∨ 31 < c then (10 : Int) else 0) = 0; rw [if_neg h])
  rw [show mrejE M.ws w.id c = 10 by unfold mrejE; rw [hf]; show (if c ≤ 0 ∨ c = 30 ∨ 31 < c then (10 : Int) else 0) = _; rw [if_pos hor]]; refine go_ ?_; refine bx_ ?_; intro g4; refine go_ ?_; refine dr_ [mdB t r lim M, blk g4 47 (bytes w.id.l), wM M.mw M.ws M.cw] 12 ?_; refine y4_ 0 1 2 3 ?_; refine y4_ 4 5 6 7 ?_; refine wy_ 8 ?_; refine w1_ 9 ?_; refine al_ ?_; intro g7; refine v1_ 10 ?_; refine sto_ ?_; refine vy_ 11 ?_; refine wx_ ?_
  by_cases h1 : c < 1
  ·refine go_ ?_; exact r1_ ()
  by_cases h3 : 31 < c
  ·refine go_ ?_; exact r1_ ()
  have h2 : c = 30 := by omega
  refine go_ ?_; exact r1_ ()
theorem set_split {X Y : List Seen} {s s' : Seen} : (X ++ s :: Y).set X.length s' = X ++ s' :: Y := by
 rw [List.set_append_right _ _ (Nat.le_refl _), Nat.sub_self]
 rfl
theorem mreject_ok {K : List Fa} {t : Ta} {r : Rl} {lim c : Int} {M : Md} {id : Id} {X Y : List Seen} {s : Seen} {hc : -9223372036854775808 ≤ c ∧ c ≤ 9223372036854775807} (hn : M.ss.length ≤ 1000) (he : mrejE M.ws id c = 0) (hX : M.ss = X ++ s :: Y) (hp : posM M.ss id = (X.length : Nat)) :
  Fn Tryz.prog 33 #[.pointer (some ⟨M.g, 0, none⟩), id.v, .int .i64 c] (mdF t r lim M K) (Ret (fun _ : Unit => True) (fun _ => .int .i64 0) (fun _ => mdF t r lim { M with ss := X ++ setC s c hc :: Y, ws := wdel M.ws id } K)) := by
 refine fe_ Tryz.func33 Tryz.ntmps33 [(0, .pointer (some ⟨M.g, 0, none⟩)), (1, id.v), (2, .int .i64 c)] ?_
 have hk := id.klaw
 cases hf : wfind M.ws id with
 | none =>
  unfold mrejE at he
  rw [hf] at he
  cases he
 | some w =>
  obtain ⟨rfl, X', Y', hXY, hdel⟩ := wfind_split hf
  have hg : MGet (M.ws.map WM.ent) w.id.v (.agg w.cells.toArray) := kget (M := WM) (wfind_some hf).1
  have hor : ¬ (c ≤ 0 ∨ c = 30 ∨ 31 < c) := fun h => by
   unfold mrejE at he
   rw [hf] at he
   have he' : (if c ≤ 0 ∨ c = 30 ∨ 31 < c then (10 : Int) else 0) = 0 := he
   rw [if_pos h] at he'
   cases he'
  have h1 : ¬ c < 1 := by omega
  have h2 : ¬ 31 < c := by omega
  have h3 : c ≠ 30 := by omega
  have hlen : M.ss.length = (X ++ setC s c hc :: Y).length := by rw [hX]; simp
  have hxs : X.length < M.ss.length := by rw [hX]; simp
  have hset : (rows Seen.cells M.ss).set (X.length * 18 + 17) (.int .i64 c) = rows Seen.cells (X ++ setC s c hc :: Y) := by
   rw [rows_set Seen.len (ss := M.ss) (j := X.length) (s := s) (by rw [hX]; simp) (setC_set s hc) (by decide), hX, set_split]
  refine go_ ?_; refine bx_ ?_; intro g4; refine go_ ?_; refine dr_ [mdB t r lim M, blk g4 47 (bytes w.id.l), wM M.mw M.ws M.cw] 12 ?_; refine y4_ 0 1 2 3 ?_; refine y4_ 4 5 6 7 ?_; refine wy_ 8 ?_; refine w1_ 9 ?_; refine al_ ?_; intro g7; refine v1_ 10 ?_; refine sto_ ?_; refine vy_ 11 ?_; refine wx_ ?_
  obtain ⟨A, hA⟩ : ∃ A, M.sA = A := ⟨_, rfl⟩
  refine go_ ?_; refine sc_form (e := 62) (size := 18) (A := M.sA) (m := M.ss.length) (c := M.sc) (xs := rows Seen.cells M.ss) at_ (by omega) ?_; intro g0 hg0; refine sc_join (α := Unit) (fun _ => [(0, .pointer (some ⟨M.g, 0, none⟩)), (4, .pointer (some ⟨g4, 0, none⟩))]) (fun _ => blk g4 47 (bytes w.id.l) :: blk M.g 94 (mdC t r lim (.slice (some ⟨g0, 0, none⟩) M.ss.length M.sc) (some M.mw) (some M.md) (some M.mf)) :: own 62 18 (some ⟨g0, 0, none⟩) M.ss.length M.sc (rows Seen.cells (X ++ setC s c hc :: Y)) :: wM M.mw M.ws M.cw :: sxM M.md M.sd M.cd :: bM M.mf M.fs M.cf :: K) (fun _ => True) ?_ ?_
  ·refine dr_ [mdB t r lim M, blk g4 47 (bytes w.id.l)] 11 ?_; refine y4_ 0 1 2 3 ?_; refine y2_ 4 5 ?_; refine wy_ 7 ?_; refine w1_ 6 ?_; refine slc_ rfl rfl sub_ (mfind_ok (K := blk g7 49 w.cells :: blk g4 47 (bytes w.id.l) :: K) w.id hn) ?_; rintro _ -; rw [hp]
   unfold mdF mdB
   rw [hg0]; refine vy_ 8 ?_; refine wy_ 9 ?_; refine w1_ 10 ?_; refine sl_sto2 rfl (at2 _ _ _) pick_ rfl rfl (by kernel_rfl) (by omega) ?_; rw [hset]; refine vx_ ?_; exact se_mid () has_ sub_ trivial
  rintro _ -; refine go_ ?_; refine dr_ [blk M.g 94 (mdC t r lim (.slice (some ⟨g0, 0, none⟩) M.ss.length M.sc) (some M.mw) (some M.md) (some M.mf)), blk g4 47 (bytes w.id.l)] 6 ?_; refine y4_ 0 1 2 3 ?_; refine wy_ 4 ?_; refine w1_ 5 ?_; refine sl_kdelK (M := WM) (X := X') (Y := Y') (f := w) rfl rfl (by rw [hXY]; exact pick_) rfl hk ?_; refine vx_ ?_; refine go_ ?_; rw [hlen, ← hg0, ← hdel]; exact r1_ ()
theorem mshut_old {K : List Fa} {t : Ta} {r : Rl} {lim s : Int} {M : Md} {b : BK} (hf : bfind M.fs s = some b) (hcl : b.cl = true) :
  Fn Tryz.prog 36 #[.pointer (some ⟨M.g, 0, none⟩), .int .u64 s] (mdF t r lim M K) (Ret (fun _ : Unit => True) (fun _ => .int .i64 0) (fun _ => mdF t r lim M K)) := by
 refine fe_ Tryz.func36 Tryz.ntmps36 [(0, .pointer (some ⟨M.g, 0, none⟩)), (1, .int .u64 s)] ?_
 obtain ⟨hb, hbs⟩ := bfind_some hf
 have hg := bget hb
 rw [hbs, hcl] at hg
 refine go_ ?_; refine al_ ?_; intro g5; refine go_ ?_; exact r1_ ()
theorem mshut_no {K : List Fa} {t : Ta} {r : Rl} {lim s : Int} {M : Md} (hw : 0 ≤ r.w) (h : 0 ≤ s ∧ s ≤ 1099511627776) (hcl : ∀ b, bfind M.fs s = some b → b.cl = false) (he : closeE r M.fs s ≠ 0) :
  Fn Tryz.prog 36 #[.pointer (some ⟨M.g, 0, none⟩), .int .u64 s] (mdF t r lim M K) (Ret (fun _ : Unit => True) (fun _ => .int .i64 (closeE r M.fs s)) (fun _ => mdF t r lim M K)) := by
 refine fe_ Tryz.func36 Tryz.ntmps36 [(0, .pointer (some ⟨M.g, 0, none⟩)), (1, .int .u64 s)] ?_
 have h2 : ¬ 1099511627776 < s := by omega
 cases hf : bfind M.fs s with
 | none =>
  have hno := bno hf
  by_cases h1 : stN r.w s = s
  ·rw [show closeE r M.fs s = 19 by unfold closeE; rw [if_neg (by omega), hf]]; refine go_ ?_; refine al_ ?_; intro g5; refine go_ ?_; refine slc_ rfl rfl sub_ (start_ok hw ⟨h.1, by omega⟩) ?_; rintro _ -; rw [h1]; refine go_ ?_; exact r1_ ()
  ·rw [show closeE r M.fs s = 15 by unfold closeE; rw [if_pos (.inr h1)]]; refine go_ ?_; refine al_ ?_; intro g5; refine go_ ?_; refine slc_ rfl rfl sub_ (start_ok hw ⟨h.1, by omega⟩) ?_; rintro _ -; refine go_ ?_; exact r1_ ()
 | some b =>
  obtain ⟨hb, hbs⟩ := bfind_some hf
  have hg := bget hb
  rw [hbs, hcl b hf] at hg
  by_cases h1 : stN r.w s = s
  ·have h4 : b.m < r.mn := Decidable.byContradiction fun hc => he (by unfold closeE; rw [if_neg (by omega), hf]; exact if_neg hc)
   rw [show closeE r M.fs s = 17 by unfold closeE; rw [if_neg (by omega), hf]; exact if_pos h4]; refine go_ ?_; refine al_ ?_; intro g5; refine go_ ?_; refine slc_ rfl rfl sub_ (start_ok hw ⟨h.1, by omega⟩) ?_; rintro _ -; rw [h1]; refine go_ ?_
   ((refine sq_region (by kernel_rfl) (by kernel_rfl) ?_; (repeat refine rq_ ?_); refine sq_end ?_))
   refine go_ ?_; exact r1_ ()
  ·rw [show closeE r M.fs s = 15 by unfold closeE; rw [if_pos (.inr h1)]]; refine go_ ?_; refine al_ ?_; intro g5; refine go_ ?_; refine slc_ rfl rfl sub_ (start_ok hw ⟨h.1, by omega⟩) ?_; rintro _ -; refine go_ ?_; exact r1_ ()
theorem mshut_new {K : List Fa} {t : Ta} {r : Rl} {lim s : Int} {M : Md} {X Y : List BK} {b : BK} (hw : 0 ≤ r.w) (h : 0 ≤ s ∧ s ≤ 1099511627776) (hX : M.fs = X ++ b :: Y) (hf : bfind M.fs s = some b) (hcl : b.cl = false) (he : closeE r M.fs s = 0) :
  Fn Tryz.prog 36 #[.pointer (some ⟨M.g, 0, none⟩), .int .u64 s] (mdF t r lim M K) (Ret (fun _ : Unit => True) (fun _ => .int .i64 0) (fun _ => mdF t r lim { M with fs := X ++ b.shut :: Y } K)) := by
 refine fe_ Tryz.func36 Tryz.ntmps36 [(0, .pointer (some ⟨M.g, 0, none⟩)), (1, .int .u64 s)] ?_
 obtain ⟨hb, hbs⟩ := bfind_some hf
 obtain ⟨hc1, hc2, b', hb', hmn⟩ := closeE_0 he
 rw [hf] at hb'
 cases hb'
 have hg := bget hb
 rw [hbs, hcl] at hg
 have hbm : ¬ b.m < r.mn := by omega
 refine go_ ?_; refine al_ ?_; intro g5; refine go_ ?_; refine slc_ rfl rfl sub_ (start_ok hw ⟨h.1, by omega⟩) ?_; rintro _ -; rw [hc2]; refine go_ ?_
 ((refine sq_region (by kernel_rfl) (by kernel_rfl) ?_; (repeat refine rq_ ?_); refine sq_end ?_))
 refine go_ ?_; refine dr_ [mdB t r lim M, blk g5 70 (bkC s (tc b.A b.l.length b.c b.m b.k) true)] 7 ?_; refine y4_ 0 1 2 3 ?_; refine y2_ 4 5 ?_; refine w1_ 6 ?_; refine sl_kput (M := BM) (X := X) (Y := Y) (f := b) (f' := b.shut) rfl (by rw [← hbs]; rfl) (by rw [← hbs]; rfl) rfl rfl (by unfold mdF; rw [hX]; exact pick_) rfl rfl rfl ?_; refine vx_ ?_; refine go_ ?_; exact r1_ ()
end
attribute [local irreducible] addV xorI
section
def mcomE (r : Rl) (M : Md) (id : Id) : Int := match wfind M.ws id with | none => 19 | some w => fitsE r M.fs w.t
def mbN (st : Int) (g5 n : Nat) (zs : List Int) (m : Int) (k : Id) (bn : Nat) : BK := ⟨st, some ⟨g5, 0, none⟩, n, zs, m, k, false, bn⟩
theorem mbN_val {st : Int} {g5 n : Nat} {zs : List Int} {m : Int} {k : Id} {bn : Nat} (h : zs.length = n) : BM.val (mbN st g5 n zs m k bn) = .agg (bkC st (tc (some ⟨g5, 0, none⟩) n n m k) false).toArray := by
 show Value.agg (bkC st (tc (some ⟨g5, 0, none⟩) zs.length n m k) false).toArray = _
 rw [h]
namespace pVm3
theorem nthx_ (h : φ := by first | exact bkC_n0 | exact bkC_n1 | exact bkC_n2 | exact bkC_n19' | exact tc_n0 | exact tc_n1 | exact rpC_n16 | exact rpC_n17 | exact rpC_n18 | exact Seen.nt _ | exact Seen.nc _ | rfl) : φ := h
theorem midx_ (h : φ := by first | exact mdC_t | exact mdC_r | exact rpC_id | exact bkC_mid | exact tc_mid | exact Seen.mid _ | exact Mid.all) : φ := h
theorem szx_ (h : φ := by ((try simp only [Wt.cells, rpC_len, bytes_length, Id.len, BK.len, mdC_len, bkC_len tc_len, tc_len, Seen.len]); (first | done | rfl); first | done | fail)) : φ := h
theorem onex_ (h : φ := by first | exact mdC_one rfl | exact one_bytes _ | exact rpC_one rfl rfl | exact BK.one _ | exact Seen.one _ | exact bkC_one tc_one | exact tc_one) : φ := h
theorem setx_ (h : φ := by first | exact mdC_set | exact bkC_set19 tc_len) : φ := h
end pVm3
open pVm3
theorem mcommit_no {K : List Fa} {t : Ta} {r : Rl} {lim : Int} {M : Md} {id : Id} {O S : Value} (hw : 0 ≤ r.w) (hwt : ∀ w, wfind M.ws id = some w → 0 ≤ w.t ∧ w.t ≤ 1099511627776) (he : mcomE r M id ≠ 0) :
  Fn Tryz.prog 32 #[.pointer (some ⟨M.g, 0, none⟩), id.v, O, S] (mdF t r lim M K) (Ret (fun _ : Unit => True) (fun _ => .int .i64 (mcomE r M id)) (fun _ => mdF t r lim M K)) := by
 refine fe_ Tryz.func32 Tryz.ntmps32 [(0, .pointer (some ⟨M.g, 0, none⟩)), (1, id.v), (2, O), (3, S)] ?_
 have hk := id.klaw
 cases hf : wfind M.ws id with
 | none =>
  have hno : MNo (M.ws.map WM.ent) id.v := kno (M := WM) (wfind_none hf)
  rw [show mcomE r M id = 19 by unfold mcomE; rw [hf]]; refine go_ ?_; refine bx_ ?_; intro g5; refine go_ ?_; refine dr_ [mdB t r lim M, blk g5 47 (bytes id.l), wM M.mw M.ws M.cw] 12 ?_; refine y4_ 0 1 2 3 ?_; refine y4_ 4 5 6 7 ?_; refine wy_ 8 ?_; refine w1_ 9 ?_; refine al_ ?_; intro g9; refine v1_ 10 ?_; refine sto_ ?_; refine vy_ 11 ?_; refine wx_ ?_; refine go_ ?_; exact r1_ ()
 | some w =>
  obtain ⟨rfl, X, Y, hXY, hdel⟩ := wfind_split hf
  have hg : MGet (M.ws.map WM.ent) w.id.v (.agg w.cells.toArray) := kget (M := WM) (wfind_some hf).1
  have hfe : mcomE r M w.id = fitsE r M.fs w.t := by unfold mcomE; rw [hf]
  rw [hfe] at he ⊢
  refine go_ ?_; refine bx_ ?_; intro g5; refine go_ ?_; refine dr_ [mdB t r lim M, blk g5 47 (bytes w.id.l), wM M.mw M.ws M.cw] 12 ?_; refine y4_ 0 1 2 3 ?_; refine y4_ 4 5 6 7 ?_; refine wy_ 8 ?_; refine w1_ 9 ?_; refine al_ ?_; intro g9; refine v1_ 10 ?_; refine sto_ ?_; refine vy_ 11 ?_; refine wx_ ?_; refine go_ ?_; refine slc_ rfl rfl sub_ (mfits_ok (K := blk g9 49 w.cells :: blk g5 47 (bytes w.id.l) :: K) (t := t) (r := r) (lim := lim) (M := M) hw (hwt w hf)) ?_; rintro _ -; refine go_ ?_; exact r1_ ()
def Md.com (M : Md) (X Y : List Seen) (s : Seen) (id : Id) (said : List Int) (fs' : List BK) (cf' : Nat) : Md := { M with ss := X ++ setC s 0 (by decide) :: Y, ws := wdel M.ws id, sd := M.sd ++ [⟨id, said, M.cd⟩], cd := M.cd + 1, fs := fs', cf := cf' }
theorem mcomB {K : List Fa} {t : Ta} {r : Rl} {lim st m : Int} {M : Md} {w : Wt} {X Y : List Seen} {s : Seen} {xs xs0 said : List Int} {C A : Option Addr} {cc c n g5 g13 : Nat} {k : Id} (ht : t.err = 0) (hn : M.ss.length ≤ 1000) (hm : 0 ≤ m ∧ m < 256) (ho : t.out = n) (hx : xs.length = n) (hx0 : xs0.length = n) (hxr : Vw K (fun w => Reads w 2 C n (rows eC xs))) (hx0r : Vw K (fun w => Reads w 2 A n (rows eC xs0))) (ex : Els xs) (ex0 : Els xs0)
  (hf : wfind M.ws w.id = some w) (hX : M.ss = X ++ s :: Y) (hp : posM M.ss w.id = (X.length : Nat)) (hsd : ∀ u ∈ M.sd, u.id ≠ w.id) (hb : (∃ XX b YY, M.fs = XX ++ b :: YY ∧ b.st = st) ∨ (∀ b ∈ M.fs, b.st ≠ st)) {Q' : Exit → Act → World → Prop} (hN : NoP Q')
  (hend : ∀ (l : Env) (L : List Fa) (g : Nat) (fs' : List BK) (cf' bn : Nat), Has l [(8, .int .i64 0)] → BkUp M.fs fs' (mbN st g n (addV t.fl xs0 xs) (m + 1) (xorI k (ofId w.id)) bn) → Sub L (mdF t r lim (M.com X Y s w.id said fs' cf') (eo (some ⟨g, 0, none⟩) n n (addV t.fl xs0 xs) :: K)) → SE Q' .ret 96 l L) :
  SC Tryz.prog (cAt [false, false, false, false, false, false, false, true] (fb Tryz.f32)) (Exit.then (fun a w => Code.wp Tryz.prog (cAt [false, false, false, false, false, false, false, false] (fb Tryz.f32)) Q' a w) Q') 96 [(0, .pointer (some ⟨M.g, 0, none⟩)), (2, .slice C n cc), (3, .string (strOfNums said)), (5, .pointer (some ⟨g5, 0, none⟩)), (12, .int .u64 st), (13, .pointer (some ⟨g13, 0, none⟩))] (blk g13 70 (bkC st (tc A n c m k) false) :: blk g5 47 (bytes w.id.l) :: mdF t r lim M K) := by
 have hk := w.id.klaw
 have hzl : (addV t.fl xs0 xs).length = n := by rw [addV_len (by omega)]; exact hx0
 have hol := t.out_le ht
 obtain ⟨rfl', X', Y', hXY, hdel⟩ := wfind_split hf
 have hlen : M.ss.length = (X ++ setC s 0 (by decide) :: Y).length := by rw [hX]; simp
 have hxs : X.length < M.ss.length := by rw [hX]; simp
 have hset : (rows Seen.cells M.ss).set (X.length * 18 + 17) (.int .i64 0) = rows Seen.cells (X ++ setC s 0 (by decide) :: Y) := by
  rw [rows_set Seen.len (ss := M.ss) (j := X.length) (s := s) (by rw [hX]; simp) (setC_set s (by decide)) (by decide), hX, set_split]
 refine sc_form (e := 62) (size := 18) (A := M.sA) (m := M.ss.length) (c := M.sc) (xs := rows Seen.cells M.ss) at_ (by omega) ?_; intro g0 hg0
 refine sc_join (α := Nat) (fun _ => [(0, .pointer (some ⟨M.g, 0, none⟩)), (3, .string (strOfNums said)), (5, .pointer (some ⟨g5, 0, none⟩)), (12, .int .u64 st), (13, .pointer (some ⟨g13, 0, none⟩))])
  (fun g => blk g13 70 (bkC st (tc (some ⟨g, 0, none⟩) n n (m + 1) (xorI k (ofId w.id))) false) :: blk g5 47 (bytes w.id.l) :: mdF t r lim M (eo (some ⟨g, 0, none⟩) n n (addV t.fl xs0 xs) :: K)) (fun _ => True) ?_ ?_
 ·refine dr_ [mdB t r lim M, blk g5 47 (bytes w.id.l)] 14 ?_; refine y4_ 0 2 3 4 ?_; refine y2_ 5 6 ?_; refine wy_ 7 ?_; refine w1_ 1 ?_
  repeat refine su_ ?_
  refine v1_ 8 ?_; refine slc_ rfl rfl sub_ (tadd_ok ht hm ho (hx0r.mono sub_) (hxr.mono sub_) ex0 ex) ?_; rintro g -; refine vy_ 9 ?_; refine y2_ 10 11 ?_; refine wy_ 12 ?_; refine w1_ 13 ?_; refine sl_store_mid (cl := tc (some ⟨g, 0, none⟩) n n (m + 1) (xorI k (ofId w.id))) rfl pick_ rfl (by rw [tc_len]; rfl) (by rw [tc_len, bkC_len tc_len]; decide) tc_one ?_; rw [bkC_put tc_len tc_len]; refine vx_ ?_; exact se_mid g has_ sub_ trivial
 rintro g -
 obtain ⟨fs', cf', bn, hup, hent⟩ : ∃ fs' cf' bn, BkUp M.fs fs' (mbN st g n (addV t.fl xs0 xs) (m + 1) (xorI k (ofId w.id)) bn) ∧ ((∃ XX b YY, M.fs = XX ++ b :: YY ∧ b.st = st ∧ fs' = XX ++ mbN st g n (addV t.fl xs0 xs) (m + 1) (xorI k (ofId w.id)) bn :: YY ∧ bn = b.bn ∧ cf' = M.cf) ∨ ((∀ b ∈ M.fs, b.st ≠ st) ∧ fs' = M.fs ++ [mbN st g n (addV t.fl xs0 xs) (m + 1) (xorI k (ofId w.id)) bn] ∧ bn = M.cf ∧ cf' = M.cf + 1)) := by
  rcases hb with ⟨XX, b, YY, h1, h2⟩ | h
  ·exact ⟨_, M.cf, b.bn, .inl ⟨XX, b, YY, h1, h2, rfl⟩, .inl ⟨XX, b, YY, h1, h2, rfl, rfl, rfl⟩⟩
  ·exact ⟨_, M.cf + 1, M.cf, .inr ⟨h, rfl⟩, .inr ⟨h, rfl, rfl, rfl⟩⟩
 refine go_ ?_
 refine sc_join (α := Unit) (fun _ => [(0, .pointer (some ⟨M.g, 0, none⟩)), (3, .string (strOfNums said)), (5, .pointer (some ⟨g5, 0, none⟩))])
  (fun _ => blk g5 47 (bytes w.id.l) :: mdB t r lim M :: ixo M.sA M.sc M.ss :: wM M.mw M.ws M.cw :: sxM M.md M.sd M.cd :: bM M.mf fs' cf' :: eo (some ⟨g, 0, none⟩) n n (addV t.fl xs0 xs) :: K) (fun _ => True) ?_ ?_
 ·rcases hent with ⟨XX, b, YY, h1, h2, rfl, rfl, rfl⟩ | ⟨h1, rfl, rfl, rfl⟩
  ·refine dr_ [mdB t r lim M, blk g13 70 (bkC st (tc (some ⟨g, 0, none⟩) n n (m + 1) (xorI k (ofId w.id))) false)] 7 ?_; refine y4_ 0 1 2 3 ?_; refine y2_ 4 5 ?_; refine w1_ 6 ?_; refine sl_kput (M := BM) (d := .int .u64) (ck := M.cf) (X := XX) (Y := YY) (f := b) (f' := mbN st g n (addV t.fl xs0 xs) (m + 1) (xorI k (ofId w.id)) b.bn) rfl (by rw [← h2]; rfl) (by rw [mbN_val hzl]; rfl) (by rw [← h2]; rfl) rfl (by unfold mdF; rw [h1]; exact pick_) rfl rfl rfl ?_; refine vx_ ?_; exact se_mid () has_ sub_ trivial
  ·refine dr_ [mdB t r lim M, blk g13 70 (bkC st (tc (some ⟨g, 0, none⟩) n n (m + 1) (xorI k (ofId w.id))) false)] 7 ?_; refine y4_ 0 1 2 3 ?_; refine y2_ 4 5 ?_; refine w1_ 6 ?_; refine sl_knew (M := BM) (d := .int .u64) (ck := M.cf) (f' := mbN st g n (addV t.fl xs0 xs) (m + 1) (xorI k (ofId w.id)) M.cf) (fs := M.fs) (k := .int .u64 st) rfl rfl (by rw [mbN_val hzl]; rfl) rfl rfl (fun f hf' e => h1 f hf' (by injection e)) pick_ rfl rfl rfl ?_; refine vx_ ?_; exact se_mid () has_ sub_ trivial
 rintro _ -; refine go_ ?_
 refine sc_join (α := Unit) (fun _ => [(0, .pointer (some ⟨M.g, 0, none⟩)), (3, .string (strOfNums said)), (5, .pointer (some ⟨g5, 0, none⟩))])
  (fun _ => blk g5 47 (bytes w.id.l) :: blk M.g 94 (mdC t r lim (.slice (some ⟨g0, 0, none⟩) M.ss.length M.sc) (some M.mw) (some M.md) (some M.mf)) :: own 62 18 (some ⟨g0, 0, none⟩) M.ss.length M.sc (rows Seen.cells (X ++ setC s 0 (by decide) :: Y)) :: wM M.mw M.ws M.cw :: sxM M.md M.sd M.cd :: bM M.mf fs' cf' :: eo (some ⟨g, 0, none⟩) n n (addV t.fl xs0 xs) :: K) (fun _ => True) ?_ ?_
 ·refine dr_ [mdB t r lim M, blk g5 47 (bytes w.id.l)] 10 ?_; refine y4_ 0 1 2 3 ?_; refine y2_ 4 5 ?_; refine w1_ 6 ?_; refine slc_ rfl rfl sub_ (mfind_ok (K := blk g5 47 (bytes w.id.l) :: eo (some ⟨g, 0, none⟩) n n (addV t.fl xs0 xs) :: K) (t := t) (r := r) (lim := lim) (M := { M with fs := fs', cf := cf' }) w.id hn) ?_; rintro _ -; rw [hp]
  unfold mdF mdB
  dsimp only; rw [hg0]; refine vy_ 7 ?_; refine wy_ 8 ?_; refine w1_ 9 ?_; refine sl_sto2 rfl (at2 _ _ _) pick_ rfl rfl (by kernel_rfl) (by omega) ?_; rw [hset]; refine vx_ ?_; exact se_mid () has_ sub_ trivial
 rintro _ -; refine go_ ?_
 refine sc_join (α := Unit) (fun _ => [(0, .pointer (some ⟨M.g, 0, none⟩)), (5, .pointer (some ⟨g5, 0, none⟩))])
  (fun _ => blk g5 47 (bytes w.id.l) :: blk M.g 94 (mdC t r lim (.slice (some ⟨g0, 0, none⟩) M.ss.length M.sc) (some M.mw) (some M.md) (some M.mf)) :: own 62 18 (some ⟨g0, 0, none⟩) M.ss.length M.sc (rows Seen.cells (X ++ setC s 0 (by decide) :: Y)) :: wM M.mw M.ws M.cw :: sxM M.md (M.sd ++ [⟨w.id, said, M.cd⟩]) (M.cd + 1) :: bM M.mf fs' cf' :: eo (some ⟨g, 0, none⟩) n n (addV t.fl xs0 xs) :: K) (fun _ => True) ?_ ?_
 ·refine dr_ [blk M.g 94 (mdC t r lim (.slice (some ⟨g0, 0, none⟩) M.ss.length M.sc) (some M.mw) (some M.md) (some M.mf)), blk g5 47 (bytes w.id.l)] 7 ?_; refine y4_ 0 1 2 3 ?_; refine y2_ 4 5 ?_; refine w1_ 6 ?_; refine sl_knewK (M := SXM) (d := .array 16 5) (ck := M.cd) (f' := ⟨w.id, said, M.cd⟩) (fs := M.sd) (k := w.id.v) rfl rfl rfl rfl rfl (fun u hu e => hsd u hu (Id.v_inj e)) pick_ rfl hk ?_; refine vx_ ?_; exact se_mid () has_ sub_ trivial
 rintro _ -; refine go_ ?_; refine dr_ [blk M.g 94 (mdC t r lim (.slice (some ⟨g0, 0, none⟩) M.ss.length M.sc) (some M.mw) (some M.md) (some M.mf)), blk g5 47 (bytes w.id.l)] 6 ?_; refine y4_ 0 1 2 3 ?_; refine wy_ 4 ?_; refine w1_ 5 ?_; refine sl_kdelK (M := WM) (X := X') (Y := Y') (f := w) rfl rfl (by rw [hXY]; exact pick_) rfl hk ?_; refine vx_ ?_; refine go_ ?_; refine hend _ _ g fs' cf' bn has_ hup ?_; rw [hlen, ← hg0, ← hdel]
 unfold Md.com
 exact sub_
end
end
end Go.Proofs.YtocaabnbmcpjmaaGreat
