/- Package total: an id's check; two checks as one. -/
import Derived.Test.YtdmeofobljjpfaaKs
import Derived.Test.YtdmeofobljjpfaaIds
import Derived.Test.YtdmeofobljjpfaaReg4
namespace Go.Proofs.Ytdmeofobljjpfaa
open Go.RowKit
attribute [local irreducible] Go.Calls Go.Exit.then Go.Exit.inBlock Go.bodyPost Go.Code.wp Go.wpList
theorem xor_b8 (x y : Int) : 0 ≤ bits .xor .u8 x y ∧ bits .xor .u8 x y < 256 := by
  have h : ∀ z : Int, 0 ≤ IntKind.u8.wrap z ∧ IntKind.u8.wrap z < 256 := fun z => by
    rw [IntKind.wrap_u8]
    omega
  unfold bits
  exact h _
theorem zip_bytes : ∀ (a b : List Int), IsBytes (List.zipWith (bits .xor .u8) a b) := fun a b x hx => by
  obtain ⟨i, hi, rfl⟩ := List.getElem_of_mem hx
  rw [List.getElem_zipWith]
  exact xor_b8 _ _
/-- Two checks as one. -/
def xorI (a b : Id) : Id := ⟨List.zipWith (bits .xor .u8) a.l b.l, by simp [a.len, b.len], zip_bytes _ _⟩
theorem Id.len_b (a : Id) : (bytes a.l).length = 16 := by rw [bytes_length, a.len]
def mixI (a b : Id) (j : Nat) : List Int := (xorI a b).l.take j ++ a.l.drop j
theorem mixI_zero (a b : Id) : mixI a b 0 = a.l := by simp [mixI]
theorem mixI_all (a b : Id) : mixI a b 16 = (xorI a b).l := by
  unfold mixI
  rw [List.take_of_length_le (by rw [(xorI a b).len]; decide), List.drop_eq_nil_of_le (by rw [a.len]; decide), List.append_nil]
theorem mixI_len (a b : Id) {j : Nat} (h : j ≤ 16) : (mixI a b j).length = 16 := by simp [mixI, (xorI a b).len, a.len]; omega
theorem id_at (a : Id) {j : Nat} (h : j < 16) : j < a.l.length := by rw [a.len]; exact h
theorem mixI_at (a b : Id) {j : Nat} (h : j < 16) : nth (bytes (mixI a b j)) (0 + j * 1) = some (.int .u8 (a.l[j]'(id_at a h))) := by
  have h1 := id_at a h
  rw [nth_eq, Nat.zero_add, Nat.mul_one]
  unfold bytes mixI
  rw [List.getElem?_map, List.getElem?_append_right (by simp; omega), List.length_take, (xorI a b).len, Nat.min_eq_left (by omega), Nat.sub_self, List.getElem?_drop, Nat.add_zero, List.getElem?_eq_getElem h1]
  rfl
theorem id_nth (b : Id) {j : Nat} (h : j < 16) : nth (bytes b.l) (0 + j * 1) = some (.int .u8 (b.l[j]'(id_at b h))) := by
  rw [nth_eq, Nat.zero_add, Nat.mul_one]
  unfold bytes
  rw [List.getElem?_map, List.getElem?_eq_getElem (id_at b h)]
  rfl
theorem mixI_set (a b : Id) {j : Nat} (h : j < 16) : SetAt (0 + j * 1) (.int .u8 (bits .xor .u8 (a.l[j]'(id_at a h)) (b.l[j]'(id_at b h)))) (bytes (mixI a b j)) (bytes (mixI a b (j + 1))) := by
  have h0 := id_at (xorI a b) h
  have h1 := id_at a h
  rw [Nat.zero_add, Nat.mul_one]
  have h2 := SetAt.mk (i := j) (v := .int .u8 (bits .xor .u8 (a.l[j]'(id_at a h)) (b.l[j]'(id_at b h)))) (r := bytes (mixI a b j)) (by rw [bytes_length, mixI_len a b (by omega)]; exact h)
  have h3 : (bytes (mixI a b j)).set j (.int .u8 (bits .xor .u8 (a.l[j]'(id_at a h)) (b.l[j]'(id_at b h)))) = bytes (mixI a b (j + 1)) := by
    have e : bits .xor .u8 (a.l[j]'(id_at a h)) (b.l[j]'(id_at b h)) = (xorI a b).l[j] := by simp [xorI]
    rw [e, show Value.int .u8 (xorI a b).l[j] = (fun x => Value.int .u8 x) (xorI a b).l[j] from rfl]
    unfold bytes
    rw [← List.map_set]
    congr 1
    unfold mixI
    rw [List.set_append_right _ _ (by simp; omega), List.length_take, Nat.min_eq_left (by rw [(xorI a b).len]; omega), Nat.sub_self, List.drop_eq_getElem_cons h1, List.set_cons_zero, List.take_succ_eq_append_getElem h0, List.append_assoc]
    rfl
  rw [h3] at h2
  exact h2
/-- An id's check. -/
def ofId (a : Id) : Id := ⟨hashL 7 a.l 16, (hashL_ok 7 a.l 16).1, (hashL_ok 7 a.l 16).2⟩
theorem ofId_l (a : Id) : (ofId a).l = hashL 7 a.l 16 := rfl
theorem hash_len (a : Id) : (bytes (hashL 7 a.l 16)).length = 16 := Id.len_b (ofId a)
attribute [local irreducible] hashL ofId
def zId : Id := ⟨List.replicate 16 0, rfl, fun x hx => by rw [List.eq_of_mem_replicate hx]; decide⟩
theorem zId_cells : bytes zId.l = [.int .u8 0, .int .u8 0, .int .u8 0, .int .u8 0, .int .u8 0, .int .u8 0, .int .u8 0, .int .u8 0, .int .u8 0, .int .u8 0, .int .u8 0, .int .u8 0, .int .u8 0, .int .u8 0, .int .u8 0, .int .u8 0] := rfl
theorem take_zero_all {a b : List Value} (h : b.length = a.length) : a.take 0 ++ b ++ a.drop (0 + b.length) = b := by
  rw [List.take_zero, List.nil_append, Nat.zero_add, h, List.drop_length, List.append_nil]
theorem nth_Ge {φ : Prop} (h : φ := by (first | rfl | first | exact mixI_at _ _ (by omega) | exact id_nth _ (by omega))) : φ := h
theorem mid_Ge {φ : Prop} (h : φ := by (first | exact Mid.all | exact Mid.all | exact Mid.head)) : φ := h
theorem sz_Ge {φ : Prop} (h : φ := by (first | rfl | ((rw [bytes_length, Id.len]; rfl); first | done | fail))) : φ := h
theorem one_Ge {φ : Prop} (h : φ := by (first | assumption | exact one_bytes _ | (simp only [List.mem_cons, List.not_mem_nil, or_false, forall_eq_or_imp, forall_eq]; decide) | exact one_bytes _)) : φ := h
theorem set_Ge {φ : Prop} (h : φ := by (first | (exact mixI_set _ _ (by omega)) | ((repeat (first | exact SetAt.here | apply SetAt.there)); first | done | fail))) : φ := h
theorem cl_Ge {φ : Prop} (h : φ := by first | rfl | exact .t | exact .f | exact .t (by omega) | exact .f (by omega) | exact .u | exact .i (by (first | exact .t (by omega) | exact .f (by omega) | exact .u | exact .i (by omega) | exact .v (by omega) | exact .b (by omega) | exact .w | rfl | omega)) | exact .v (by omega) | exact .b (by omega) | exact .q (by omega) | exact .w | exact .b (by exact at_) rfl (by exact nth_Ge) | exact .w (by exact at_) rfl rfl (by exact sz_Ge) | exact .s (by exact at_) (by exact mid_Ge) rfl rfl (by exact sz_Ge) | exact .z rfl rfl ⟨by kernel_rfl⟩ | exact .b rfl rfl ⟨by kernel_rfl⟩ | exact .a rfl rfl ⟨by kernel_rfl⟩ | exact .o rfl | exact .s | exact .n | exact .p rfl | exact .q rfl | exact .c rfl | exact .d rfl | exact .n rfl rfl (by omega) | exact .a rfl rfl (by omega) | exact .p rfl rfl (by omega) (by omega) | exact .y rfl rfl (by omega) (by omega) | exact .o (by exact at_) (by omega) rfl (by exact nth_Ge) | exact .m (by exact at_) (by omega) (by exact mid_Ge) rfl rfl (by exact sz_Ge) | exact .mlen (by exact at_) rfl | exact .t (by exact at_) rfl rfl (by first | exact True.intro | rfl) (by assumption) | exact .f (by exact at_) rfl rfl (by first | exact True.intro | rfl) (by assumption) rfl | exact .t1 (by exact at_) rfl rfl (by first | exact True.intro | rfl) (by assumption) | exact .f1 (by exact at_) rfl rfl (by first | exact True.intro | rfl) (by assumption) rfl | exact .r rfl rfl (by omega) (by omega) (by exact nth_Ge) rfl | exact .s rfl (by omega) (by assumption) | exact at_ | assumption | exact .r rfl rfl | exact .h rfl rfl rfl (by omega) | exact .l rfl rfl rfl (by omega) (by omega) | exact .g rfl rfl rfl rfl (by omega) (by omega) | exact .h rfl rfl (toN_ (by omega)) (by omega) | exact .l rfl rfl (toN_ (by omega)) (by omega) (by omega) | exact .g rfl rfl (toN_ (by omega)) (toN_ (by omega)) (by omega) (by omega) | exact .o (by decide) | exact .f (by decide) | exact .n (by omega) (by first | decide | (show _ ≤ ((64 : Nat) : Int); omega)) | (constructor; (repeat (first | exact .t (by omega) | exact .f (by omega) | exact .u | exact .i (by omega) | exact .v (by omega) | exact .b (by omega) | exact .w | rfl | omega)); first | done | fail) | omega | (show _ ≤ ((64 : Nat) : Int); omega)) : φ := h
theorem pv_Ge {φ : Prop} (h : φ := by constructor; (repeat exact cl_Ge); first | done | fail) : φ := h
theorem su_Ge {φ ψ : Prop} (k : ψ) (h : Hide ψ → φ := by (intro k; (first | refine sl_pu (PuI.sep (by exact pv_Ge)) rfl ?_ | refine sl_yes rfl rfl ?_ | refine sl_no rfl rfl rfl ?_ | refine sl_off rfl rfl rfl ?_ | (fail)); exact k.out)) : φ := h ⟨k⟩
theorem rq_Ge {φ ψ : Prop} (k : ψ) (h : Hide ψ → φ := by (intro k; (first | refine wq_pu (PuI.sep (by exact pv_Ge)) rfl ?_ | refine wq_yes rfl rfl ?_ | refine wq_no rfl rfl rfl ?_ | refine wq_off rfl rfl rfl ?_ | (fail)); exact k.out)) : φ := h ⟨k⟩
theorem sto_Ge {φ ψ : Prop} (k : ψ) (h : Hide ψ → φ := by (intro k; (first | refine sl_store rfl (by exact pick_) rfl rfl (by kernel_rfl) (by exact set_Ge) ?_ | refine sl_store_whole rfl (by exact pick_) rfl (by exact sz_Ge) (by exact sz_Ge) (by exact one_Ge) ?_); exact k.out)) : φ := h ⟨k⟩
theorem go_Ge {φ ψ : Prop} (k : ψ) (h : Hide ψ → φ := by (intro k; (repeat (first | refine su_Ge ?_ | refine so_ ?_ | refine sto_Ge ?_)); exact k.out)) : φ := h ⟨k⟩
set_option maxRecDepth 100000 in
set_option maxHeartbeats 2000000 in
theorem with_ok {K : List Fa} {a b : Id} : Fn Try.prog 33 #[a.v, b.v] K (Ret (fun _ : Unit => True) (fun _ => (xorI a b).v) (fun _ => K)) := by
  refine fn_enter Try.func33 rfl _ Try.ntmps33 (by simp) [(0, a.v), (1, b.v)] (args_of (by simp)) ?_
  refine go_Ge ?_
  refine sl_box rfl rfl rfl ?_; intro g1
  refine go_Ge ?_
  refine sl_box rfl rfl rfl ?_; intro g2
  refine go_Ge ?_
  refine sl_alloc rfl rfl rfl ?_; intro g3
  refine go_Ge ?_
  refine sc_for (fun j : Nat => [(2, .pointer (some ⟨g1, 0, none⟩)), (3, .pointer (some ⟨g2, 0, none⟩)), (4, .pointer (some ⟨g3, 0, none⟩)), (6, .int .i64 j)]) (fun j => blk g1 54 (bytes (mixI a b j)) :: blk g2 54 (bytes b.l) :: blk g3 54 (bytes zId.l) :: K) (fun j => j ≤ 16) (fun j => 16 - j) 0 (by exact has_) (by rw [mixI_zero, zId_cells]; exact sub_) (by omega) ?_
  intro j hj
  by_cases hlt : j < 16
  · refine go_Ge ?_
    refine sd_drawn (fun W => AllP W [blk g1 54 (bytes (mixI a b j)), blk g2 54 (bytes b.l)]) (fun i => !(List.contains [8] i)) (by kernel_rfl) 9 rfl ?_
    refine sd_yes2 0 rfl (by exact gd_) (by kernel_rfl) (by kernel_rfl) (by exact nop_) (PuI.all (by exact pv_Ge)) rfl (fun w hw => all_ hw) ?_
    refine sd_yes2 1 rfl (by exact gd_) (by kernel_rfl) (by kernel_rfl) (by exact nop_) (PuI.all (by exact pv_Ge)) rfl (fun w hw => all_ hw) ?_
    refine sd_yes2 2 rfl (by exact gd_) (by kernel_rfl) (by kernel_rfl) (by exact nop_) (PuI.all (by exact pv_Ge)) rfl (fun w hw => all_ hw) ?_
    refine sd_yes2 3 rfl (by exact gd_) (by kernel_rfl) (by kernel_rfl) (by exact nop_) (PuI.all (by exact pv_Ge)) rfl (fun w hw => all_ hw) ?_
    refine sd_yes2 4 rfl (by exact gd_) (by kernel_rfl) (by kernel_rfl) (by exact nop_) (PuI.all (by exact pv_Ge)) rfl (fun w hw => all_ hw) ?_
    refine sd_yes2 5 rfl (by exact gd_) (by kernel_rfl) (by kernel_rfl) (by exact nop_) (PuI.all (by exact pv_Ge)) rfl (fun w hw => all_ hw) ?_
    refine sd_yes2 6 rfl (by exact gd_) (by kernel_rfl) (by kernel_rfl) (by exact nop_) (PuI.all (by exact pv_Ge)) rfl (fun w hw => all_ hw) ?_
    refine sd_yes2 7 rfl (by exact gd_) (by kernel_rfl) (by kernel_rfl) (by exact nop_) (PuI.all (by exact pv_Ge)) rfl (fun w hw => all_ hw) ?_
    refine sd_one 8 (by kernel_rfl) (sa_sl 8 rfl ?_)
    refine sto_Ge ?_
    refine sl_nil ?_
    refine se_sd (fun h => absurd h (by decide)) ?_
    refine sd_done (by kernel_rfl) ?_
    refine go_Ge ?_
    exact se_round (j + 1) (by exact has_) (by exact sub_) hlt (by omega)
  obtain rfl : j = 16 := by omega
  rw [mixI_all]
  refine go_Ge ?_
  refine sl_store_whole rfl (by exact pick_) rfl (by rw [Id.len_b]; rfl) (by rw [Id.len_b, Id.len_b]) (one_bytes _) ?_
  refine go_Ge ?_
  exact se_ret_c () trivial rfl rfl (by exact at_) rfl rfl (by rw [Id.len_b]; rfl) rfl (by exact sub_)
set_option maxRecDepth 100000 in
set_option maxHeartbeats 2000000 in
theorem ofId_ok {K : List Fa} {a : Id} : Fn Try.prog 34 #[a.v] K (Ret (fun _ : Unit => True) (fun _ => (ofId a).v) (fun _ => K)) := by
  refine fn_enter Try.func34 rfl _ Try.ntmps34 (by simp) [(0, a.v)] (args_of (by simp)) ?_
  refine go_Ge ?_
  refine sl_box rfl rfl rfl ?_; intro g1
  refine go_Ge ?_
  refine sl_alloc rfl rfl rfl ?_; intro g2
  refine go_Ge ?_
  refine sl_alloc rfl rfl rfl ?_; intro g3
  refine go_Ge ?_
  refine sd_drawn (fun W => AllP W []) (fun _ => true) (by kernel_rfl) 4 rfl ?_
  refine sd_yes2 0 rfl (by exact gd_) (by kernel_rfl) (by kernel_rfl) (by exact nop_) (PuI.all (by exact pv_Ge)) rfl (fun w hw => all_ hw) ?_
  refine sd_yes2 1 rfl (by exact gd_) (by kernel_rfl) (by kernel_rfl) (by exact nop_) (PuI.all (by exact pv_Ge)) rfl (fun w hw => all_ hw) ?_
  refine sd_one 2 (by kernel_rfl) (sa_sl 2 rfl ?_)
  refine sl_call rfl rfl (by kernel_rfl) rfl (by exact sub_) (hash_ok (n := 16) (bs := a.l) (by decide) (by decide) (by decide) (Vw.of_blk (by exact at_) (Id.len_b a)) a.ok a.len (by decide)) ?_
  rintro ⟨A1, c1⟩ -
  refine sl_know (own_form_at (e := 5) (size := 1) (A := A1) (m := 16) (c := c1) (xs := bytes (hashL 7 a.l 16)) (by exact at_) (by decide)) ?_
  rintro ⟨gh, rfl⟩
  refine sl_nil ?_
  refine se_sd (fun _ w hw => all_ hw) ?_
  refine sd_one 3 (by kernel_rfl) (sa_sl 3 rfl ?_)
  refine sl_copy_blk (kk := 16) (size := 1) (cs := bytes (hashL 7 a.l 16)) rfl (by exact pick_) rfl rfl rfl rfl (hash_len a) (own_cells (e := 5) (size := 1) (k := 16) (c := c1) (xs := bytes (hashL 7 a.l 16)) (o := 0) (by exact at_) Mid.all (by decide)) (by rw [hash_len]; decide) (one_bytes _) rfl ?_
  rw [take_zero_all (hash_len a), ← ofId_l]
  refine sl_nil ?_
  refine se_sd (fun _ w hw => all_ hw) ?_
  refine sd_done (by kernel_rfl) ?_
  refine go_Ge ?_
  exact se_ret_c () trivial rfl rfl (by exact at_) rfl rfl (by rw [Id.len_b]; rfl) rfl (by exact sub_)
end Go.Proofs.Ytdmeofobljjpfaa
