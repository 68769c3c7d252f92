/- Several texts of one claim, one behind the other (Jl, Jm). -/
import Derived.Test.YtemhhhikopemmaaB15
/- A record laid in cells: the program's lay and Lay. -/
namespace Go.Proofs.Ytemhhhikopemmaa
open Go.RowKit
attribute [local irreducible] Go.Calls Go.Exit.then Go.Exit.inBlock Go.bodyPost Go.Code.wp Go.wpList takeL recordL
theorem zs_len {n : Nat} : (zs n).length = n := by simp [zs]
theorem zs_bytes {n : Nat} : IsBytes (zs n) := fun x hx => by
  have := List.eq_of_mem_replicate hx
  subst this
  exact ⟨by decide, by decide⟩
theorem made_u8 (n m : Nat) (h : m ≤ n) : ((madeCells (Value.int .u8 0).cells (n * 1)).toList.take (m * 1)) = bytes (zs m) := by
  rw [Nat.mul_one, Nat.mul_one]
  have h1 : (madeCells (Value.int .u8 0).cells n).toList = List.replicate n (Value.int .u8 0) := by
    apply List.ext_getElem?
    intro i
    by_cases hi : i < n
    · simp [madeCells, Value.cells, hi, Nat.mod_one]
    · simp [madeCells, Value.cells, hi]
  rw [h1, List.take_replicate, Nat.min_eq_left h]
  simp [bytes, zs]
theorem bodyL_len {number follow : Nat} {part : List Int} (h : part.length ≤ 48) : (bodyL number follow part).length = 56 := by
  simp only [bodyL, List.length_append, le_len, zs_len]
  omega
theorem bodyL_bytes {number follow : Nat} {part : List Int} (h : IsBytes part) : IsBytes (bodyL number follow part) :=
  ((((le_bytes _ _).app (le_bytes _ _)).app (le_bytes _ _)).app h).app zs_bytes
theorem cellL_len {number follow : Nat} {part : List Int} (h : part.length ≤ 48) : (cellL number follow part).length = 64 := by
  rw [cellL, List.length_append, (hashL_ok _ _ _).1, bodyL_len h]
theorem cellL_bytes {number follow : Nat} {part : List Int} (h : IsBytes part) : IsBytes (cellL number follow part) := (hashL_ok _ _ _).2.app (bodyL_bytes h)
theorem partL_len {bs : List Int} {i : Nat} : (partL bs i).length ≤ 48 := by rw [partL, List.length_take]; omega
theorem recF_len {number many : Nat} {bs : List Int} : ∀ {i : Nat}, (recF number many bs i).length = i * 64
  | 0 => rfl
  | i + 1 => by rw [recF, List.length_append, recF_len, cellL_len partL_len]; omega
theorem recF_bytes {number many : Nat} {bs : List Int} (h : IsBytes bs) : ∀ {i : Nat}, IsBytes (recF number many bs i)
  | 0 => fun x hx => by cases hx
  | i + 1 => (recF_bytes h).app (cellL_bytes ((h.drop _).take _))
attribute [local irreducible] hashL
theorem nth_Jl {φ : Prop} (h : φ := by (first | rfl | rfl)) : φ := h
theorem mid_Jl {φ : Prop} (h : φ := by (first | exact Mid.all | exact Mid.all | exact Mid.head)) : φ := h
theorem sz_Jl {φ : Prop} (h : φ := by (first | rfl | (rfl; first | done | fail))) : φ := h
theorem one_Jl {φ : Prop} (h : φ := by (first | assumption | exact one_bytes _ | (simp only [List.mem_cons, List.not_mem_nil, or_false, forall_eq_or_imp, forall_eq]; decide) | exact one_bytes _)) : φ := h
theorem set_Jl {φ : Prop} (h : φ := by (first | (fail) | ((repeat (first | exact SetAt.here | apply SetAt.there)); first | done | fail))) : φ := h
theorem cl_Jl {φ : Prop} (h : φ := by first | rfl | exact .t | exact .f | exact .t (by omega) | exact .f (by omega) | exact .u | exact .i (by (first | exact .t (by omega) | exact .f (by omega) | exact .u | exact .i (by omega) | exact .v (by omega) | exact .b (by omega) | exact .w | rfl | omega)) | exact .v (by omega) | exact .b (by omega) | exact .q (by omega) | exact .w | exact .b (by exact at_) rfl (by exact nth_Jl) | exact .w (by exact at_) rfl rfl (by exact sz_Jl) | exact .s (by exact at_) (by exact mid_Jl) rfl rfl (by exact sz_Jl) | exact .z rfl rfl ⟨by kernel_rfl⟩ | exact .b rfl rfl ⟨by kernel_rfl⟩ | exact .a rfl rfl ⟨by kernel_rfl⟩ | exact .o rfl | exact .s | exact .n | exact .p rfl | exact .q rfl | exact .c rfl | exact .d rfl | exact .n rfl rfl (by omega) | exact .a rfl rfl (by omega) | exact .p rfl rfl (by omega) (by omega) | exact .y rfl rfl (by omega) (by omega) | exact .o (by exact at_) (by omega) rfl (by exact nth_Jl) | exact .m (by exact at_) (by omega) (by exact mid_Jl) rfl rfl (by exact sz_Jl) | exact .mlen (by exact at_) rfl | exact .t (by exact at_) rfl rfl (by first | exact True.intro | rfl) (by assumption) | exact .f (by exact at_) rfl rfl (by first | exact True.intro | rfl) (by assumption) rfl | exact .t1 (by exact at_) rfl rfl (by first | exact True.intro | rfl) (by assumption) | exact .f1 (by exact at_) rfl rfl (by first | exact True.intro | rfl) (by assumption) rfl | exact .r rfl rfl (by omega) (by omega) (by exact nth_Jl) rfl | exact .s rfl (by omega) (by assumption) | exact at_ | assumption | exact .r rfl rfl | exact .h rfl rfl rfl (by omega) | exact .l rfl rfl rfl (by omega) (by omega) | exact .g rfl rfl rfl rfl (by omega) (by omega) | exact .h rfl rfl (toN_ (by omega)) (by omega) | exact .l rfl rfl (toN_ (by omega)) (by omega) (by omega) | exact .g rfl rfl (toN_ (by omega)) (toN_ (by omega)) (by omega) (by omega) | exact .o (by decide) | exact .f (by decide) | exact .n (by omega) (by first | decide | (show _ ≤ ((64 : Nat) : Int); omega)) | (constructor; (repeat (first | exact .t (by omega) | exact .f (by omega) | exact .u | exact .i (by omega) | exact .v (by omega) | exact .b (by omega) | exact .w | rfl | omega)); first | done | fail) | omega | (show _ ≤ ((64 : Nat) : Int); omega)) : φ := h
theorem pv_Jl {φ : Prop} (h : φ := by constructor; (repeat exact cl_Jl); first | done | fail) : φ := h
theorem su_Jl {φ ψ : Prop} (k : ψ) (h : Hide ψ → φ := by (intro k; (first | refine sl_pu (PuI.sep (by exact pv_Jl)) rfl ?_ | refine sl_yes rfl rfl ?_ | refine sl_no rfl rfl rfl ?_ | refine sl_off rfl rfl rfl ?_ | (fail)); exact k.out)) : φ := h ⟨k⟩
theorem rq_Jl {φ ψ : Prop} (k : ψ) (h : Hide ψ → φ := by (intro k; (first | refine wq_pu (PuI.sep (by exact pv_Jl)) rfl ?_ | refine wq_yes rfl rfl ?_ | refine wq_no rfl rfl rfl ?_ | refine wq_off rfl rfl rfl ?_ | (fail)); exact k.out)) : φ := h ⟨k⟩
theorem sto_Jl {φ ψ : Prop} (k : ψ) (h : Hide ψ → φ := by (intro k; (first | refine sl_store rfl (by exact pick_) rfl rfl (by kernel_rfl) (by exact set_Jl) ?_ | refine sl_store_whole rfl (by exact pick_) rfl (by exact sz_Jl) (by exact sz_Jl) (by exact one_Jl) ?_); exact k.out)) : φ := h ⟨k⟩
theorem go_Jl {φ ψ : Prop} (k : ψ) (h : Hide ψ → φ := by (intro k; (repeat (first | refine su_Jl ?_ | refine so_ ?_ | refine sto_Jl ?_)); exact k.out)) : φ := h ⟨k⟩
set_option maxRecDepth 100000 in
set_option maxHeartbeats 4000000 in
theorem layP_ok {K : List Fa} {A : Option Addr} {n c number follow : Nat} {part : List Int} (h : Rd K A n c part) (hn : n ≤ 48) (h1 : number < 16777216) (h2 : follow < 16777216) :
    Fn Try.prog 37 #[.int .u32 number, .int .u32 follow, .slice A n c] K (Ret (fun _ : Option Addr × Nat => True) (fun q => .slice q.1 64 q.2) (fun q => own 5 1 q.1 64 q.2 (bytes (cellL number follow part)) :: K)) := by
  refine fn_enter Try.func37 rfl _ Try.ntmps37 (by simp) [(0, .int .u32 number), (1, .int .u32 follow), (2, .slice A n c)] (args_of (by simp)) ?_
  have hle := h.le
  have hlen := h.len
  refine go_Jl ?_
  refine sl_alloc rfl rfl rfl ?_; intro b
  refine sl_sub (L' := wrb b none ([] : List Int).length 0 :: u8o none 0 [] :: K) (.cons .here (Sub.own_nil Sub.refl)) ?_
  refine go_Jl ?_
  refine sl_make (lo := .tmp 0) (i := default) (k := 8) (c := 8) (bytes := 1) (size := 1) (z := .int .u8 0) (e := 5) rfl rfl rfl (by kernel_rfl) (by decide) (by decide) (by decide) rfl ?_
  intro gz
  rw [made_u8 8 8 (by decide)]
  refine sl_call rfl rfl (by kernel_rfl) rfl (by exact sub_) (wRaw (K := own 5 1 (some ⟨gz, 0, none⟩) 8 8 (bytes (zs 8)) :: K) (bs := []) (xs := zs 8) (Vw.of_own (e := 5) .here) (by decide)) ?_
  rintro ⟨A1, c1⟩ -
  rw [List.nil_append]
  refine go_Jl ?_
  refine sl_call rfl rfl (by kernel_rfl) rfl (by exact sub_) (wUint (K := K) (n := number) (k := 3) (by decide) (by omega) (by omega) (by rw [zs_len]; decide)) ?_
  rintro ⟨A2, c2⟩ -
  refine go_Jl ?_
  refine sl_call rfl rfl (by kernel_rfl) rfl (by exact sub_) (wUint (K := K) (n := follow) (k := 3) (by decide) (by omega) (by omega) (by simp only [List.length_append, zs_len, le_len]; decide)) ?_
  rintro ⟨A3, c3⟩ -
  refine go_Jl ?_
  refine sl_call rfl rfl (by kernel_rfl) rfl (by exact sub_) (wUint (K := K) (n := (n : Int)) (k := 2) (by decide) (by omega) (by omega) (by simp only [List.length_append, zs_len, le_len]; decide)) ?_
  rintro ⟨A4, c4⟩ -
  refine go_Jl ?_
  refine sl_call rfl rfl (by kernel_rfl) rfl (by exact sub_) (wRaw (K := K) (xs := part) h.vw (by simp only [List.length_append, zs_len, le_len]; omega)) ?_
  rintro ⟨A5, c5⟩ -
  refine go_Jl ?_
  refine sl_make (lo := .tmp 0) (i := default) (k := 48 - n) (c := 48 - n) (bytes := 1) (size := 1) (z := .int .u8 0) (e := 5) (by show some (Value.int _ _) = some (Value.int _ _); congr 2; omega) (by show some (Value.int _ _) = some (Value.int _ _); congr 2; omega) rfl (by kernel_rfl) (Nat.le_refl _) (by omega) (by unfold maxLen; omega) rfl ?_
  intro gy
  rw [made_u8 (48 - n) (48 - n) (Nat.le_refl _)]
  refine sl_call rfl rfl (by kernel_rfl) rfl (by exact sub_) (wRaw (K := own 5 1 (some ⟨gy, 0, none⟩) (48 - n) (48 - n) (bytes (zs (48 - n))) :: K) (xs := zs (48 - n)) (Vw.of_own (e := 5) .here) (by simp only [List.length_append, zs_len, le_len]; omega)) ?_
  rintro ⟨A6, c6⟩ -
  have hw : zs 8 ++ le number 3 ++ le follow 3 ++ le n 2 ++ part ++ zs (48 - n) = zs 8 ++ bodyL number follow part := by rw [bodyL, hlen]; simp only [List.append_assoc]
  rw [hw]
  refine go_Jl ?_
  have hbl := bodyL_len (number := number) (follow := follow) (part := part) (by omega)
  have hll : (zs 8 ++ bodyL number follow part).length = 64 := by rw [List.length_append, zs_len, hbl]
  refine sl_call rfl rfl (by kernel_rfl) rfl (by exact sub_) (wBytes (K := K) (bs := zs 8 ++ bodyL number follow part) (by omega)) ?_
  rintro ⟨A7, c7⟩ -
  have hcell : cellL number follow part = hashL 9 (bodyL number follow part) 8 ++ bodyL number follow part := rfl
  have hdr : (zs 8 ++ bodyL number follow part).drop 8 = bodyL number follow part := List.drop_left' zs_len
  have hbb : IsBytes (zs 8 ++ bodyL number follow part) := zs_bytes.app (bodyL_bytes h.okb)
  generalize zs 8 ++ bodyL number follow part = ws at hll hdr hbb ⊢
  rw [← hdr] at hcell
  show SL _ _ _ _ _ _ (own 5 1 A7 ws.length c7 (bytes ws) :: _)
  rw [hll]
  refine sl_form (e := 5) (size := 1) (A := A7) (m := 64) (by exact at_) (by decide) ?_
  rintro g7 rfl
  refine sl_know (fun w hw => (own_len (e := 5) (size := 1) (A := some ⟨g7, 0, none⟩) hw (by exact at_)).2) ?_
  rintro ⟨l1, l2⟩
  refine go_Jl ?_
  refine sl_call rfl rfl (by kernel_rfl) rfl Sub.refl (sum_ok (xs := ws) ⟨Vw.of_own (e := 5) (c := c7) (by exact at_), l1, by decide, l2, hll, hbb⟩ (by decide)) ?_
  rintro ⟨A8, c8⟩ -
  refine go_Jl ?_
  refine sl_form (e := 5) (size := 1) (A := A8) (m := 8) (by exact at_) (by decide) ?_
  rintro g8 rfl
  refine sl_copy0 (e := 5) (size := 1) (k := 64) (c := c7) (xs := bytes ws) (cs := bytes (hashL 9 (ws.drop 8) 8)) (kk := 8) (o := 0) (g := g7) rfl (by exact pick_) rfl rfl rfl (by decide) (by rw [bytes_length, (hashL_ok _ _ _).1]) (own_cells (e := 5) (size := 1) (k := 8) (c := c8) (xs := bytes (hashL 9 (ws.drop 8) 8)) (by exact at_) Mid.all (by decide)) (by rw [bytes_length, (hashL_ok _ _ _).1]; decide) (one_bytes _) rfl ?_
  have hfin : (bytes ws).take 0 ++ bytes (hashL 9 (ws.drop 8) 8) ++ (bytes ws).drop (0 + (bytes (hashL 9 (ws.drop 8) 8)).length) = bytes (cellL number follow part) := by
    rw [hcell, bytes_app, List.take_zero, List.nil_append, bytes_length, (hashL_ok _ _ _).1]
    simp [bytes]
  rw [hfin]
  refine go_Jl ?_
  exact se_ret1 (some ⟨g7, 0, none⟩, c7) trivial rfl rfl (by exact sub_)
theorem drop_part {bs : List Int} {i n : Nat} (h : bs.length = n) : (bs.drop (i * 48)).take (min ((i + 1) * 48) n - i * 48) = partL bs i := by
  unfold partL
  by_cases hc : (i + 1) * 48 ≤ n
  · rw [Nat.min_eq_left hc]
    congr 1
    omega
  · rw [Nat.min_eq_right (by omega), List.take_of_length_le (by rw [List.length_drop, h]; omega), List.take_of_length_le (by rw [List.length_drop, h]; omega)]
def LyA (K : List Fa) (number : Int) (bs : List Int) : Ending → World → Prop :=
  if number < 0 ∨ 1048576 ≤ number then Ret (fun _ : Unit => True) (fun _ => .tuple #[.slice none 0 0, .int .i64 6]) (fun _ => K)
  else if 65536 < bs.length then Ret (fun _ : Unit => True) (fun _ => .tuple #[.slice none 0 0, .int .i64 4]) (fun _ => K)
  else Ret (fun _ : Option Addr × Nat => True) (fun q => .tuple #[.slice q.1 (recL number.toNat bs).length q.2, .int .i64 0]) (fun q => u8o q.1 q.2 (recL number.toNat bs) :: K)
set_option maxRecDepth 100000 in
set_option maxHeartbeats 4000000 in
theorem Lay_ok {K : List Fa} {A : Option Addr} {n c : Nat} {number : Int} {bs : List Int} (h : Rd K A n c bs) (hnb : -9223372036854775808 ≤ number ∧ number ≤ 9223372036854775807) :
    Fn Try.prog 13 #[.int .i64 number, .slice A n c] K (LyA K number bs) := by
  refine fn_enter Try.func13 rfl _ Try.ntmps13 (by simp) [(0, .int .i64 number), (1, .slice A n c)] (args_of (by simp)) ?_
  have hle := h.le
  have hlen := h.len
  have hbig := h.big
  unfold LyA
  by_cases h0 : number < 0
  · rw [if_pos (.inl h0)]
    refine go_Jl ?_
    exact se_ret2 () trivial rfl rfl rfl rfl (by exact sub_)
  by_cases h1 : 1048576 ≤ number
  · rw [if_pos (.inr h1)]
    refine go_Jl ?_
    exact se_ret2 () trivial rfl rfl rfl rfl (by exact sub_)
  rw [if_neg (by omega)]
  by_cases h2 : 65536 < n
  · rw [if_pos (by omega)]
    refine go_Jl ?_
    exact se_ret2 () trivial rfl rfl rfl rfl (by exact sub_)
  rw [if_neg (by omega)]
  obtain ⟨k, rfl⟩ : ∃ k : Nat, number = k := ⟨number.toNat, by omega⟩
  rw [Int.toNat_natCast]
  refine go_Jl ?_
  refine sl_call rfl rfl (by kernel_rfl) rfl (by exact sub_) (cells_ok (n := n) (by omega)) ?_
  rintro _ -
  have hrec : recL k bs = recF k (manyL n) bs (manyL n) := by rw [recL, hlen]
  rw [hrec, recF_len]
  have hmb : manyL n ≤ 1366 := by unfold manyL; omega
  have hm1 : 1 ≤ manyL n := by unfold manyL; omega
  have hms : (manyL n - 1) * 48 ≤ n := by unfold manyL; omega
  generalize manyL n = many at hmb hm1 hms ⊢
  refine go_Jl ?_
  refine sc_for (fun q : Wg => [(0, .int .i64 k), (1, .slice A n c), (6, .int .i64 many), (7, .slice q.A (q.j * 64) q.c), (24, .int .i64 many), (25, .int .i64 q.j)]) (fun q => own 5 1 q.A (q.j * 64) q.c (bytes (recF k many bs q.j)) :: K) (fun q => q.j ≤ many) (fun q => many - q.j) ⟨0, none, 0⟩ (by exact has_) (Sub.own_nil Sub.refl) (Nat.zero_le _) ?_
  rintro ⟨i, B, cb⟩ hi
  replace hi : i ≤ many := hi
  dsimp only
  by_cases hlt : i < many
  · have hin : i * 48 ≤ n := by
      have : i * 48 ≤ (many - 1) * 48 := Nat.mul_le_mul_right _ (by omega)
      omega
    have hmn : (if (n : Int) < ((i : Int) + 1) * 48 then (n : Int) else ((i : Int) + 1) * 48) = ((min ((i + 1) * 48) n : Nat) : Int) := by split <;> omega
    have hr := (h.next (k := i * 48) hin).front (m := min ((i + 1) * 48) n - i * 48) (by omega)
    rw [drop_part hlen] at hr
    refine go_Jl ?_
    rw [hmn]
    rw [show ((i : Int) * 48).toNat = i * 48 by omega, Int.toNat_natCast]
    have e1 : (k : Int) + i = ((k + i : Nat) : Int) := by omega
    have e2 : (many : Int) - 1 - i = ((many - 1 - i : Nat) : Int) := by omega
    rw [e1, e2]
    refine sl_call rfl rfl (by kernel_rfl) rfl Sub.refl (layP_ok (number := k + i) (follow := many - 1 - i) (hr.mono (by exact sub_)) (by omega) (by omega) (by omega)) ?_
    rintro ⟨B2, cb2⟩ -
    refine sl_app rfl (by exact pick_) rfl (Vw.of_own (e := 5) (c := cb2) (by exact at_)) (one_bytes _) rfl Try.info5 (by decide) (by decide) rfl (by unfold maxLen; omega) (by omega) ?_
    intro B3 cb3
    rw [← bytes_app, show i * 64 + 64 = (i + 1) * 64 by omega]
    refine go_Jl ?_
    exact se_round ⟨i + 1, B3, cb3⟩ (by exact has_) (by exact sub_) hlt (by show many - (i + 1) < many - i; omega)
  obtain rfl : i = many := by omega
  refine go_Jl ?_
  refine se_ret2 (B, cb) trivial rfl rfl rfl rfl ?_
  show Sub _ (own 5 1 B (recF k i bs i).length cb (bytes (recF k i bs i)) :: K)
  rw [recF_len]
  exact sub_
end Go.Proofs.Ytemhhhikopemmaa
/- The law's own cells: lay, all, same. -/
namespace Go.Proofs.Ytemhhhikopemmaa
open Go.RowKit
attribute [local irreducible] Go.Calls Go.Exit.then Go.Exit.inBlock Go.bodyPost Go.Code.wp Go.wpList takeL recordL hashL
theorem zs_succ {n : Nat} : zs (n + 1) = zs n ++ [0] := by simp [zs, List.replicate_succ']
theorem recL_len {k : Nat} {bs : List Int} : (recL k bs).length = manyL bs.length * 64 := recF_len
theorem recL_bytes {k : Nat} {bs : List Int} (h : IsBytes bs) : IsBytes (recL k bs) := recF_bytes h
def cellsA (ls : List (List Int)) : Nat := (ls.map fun x => manyL x.length).sum
def allL (ls : List (List Int)) : List Int := ls.foldl (fun b x => b ++ recL (b.length / 64) x) []
theorem allL_snoc (ls : List (List Int)) (x : List Int) : allL (ls ++ [x]) = allL ls ++ recL ((allL ls).length / 64) x := by simp [allL]
theorem cellsA_snoc (ls : List (List Int)) (x : List Int) : cellsA (ls ++ [x]) = cellsA ls + manyL x.length := by simp [cellsA]
theorem snoc_ind {α : Type} {P : List α → Prop} (h0 : P []) (h1 : ∀ l x, P l → P (l ++ [x])) (l : List α) : P l := by
  have h : ∀ r : List α, P r.reverse := by
    intro r
    induction r with
    | nil => exact h0
    | cons a r ih => rw [List.reverse_cons]; exact h1 _ _ ih
  have := h l.reverse
  rwa [List.reverse_reverse] at this
theorem allL_len (ls : List (List Int)) : (allL ls).length = cellsA ls * 64 := by
  refine snoc_ind (P := fun ls => (allL ls).length = cellsA ls * 64) rfl (fun l x ih => ?_) ls
  rw [allL_snoc, cellsA_snoc, List.length_append, ih, recL_len]
  omega
theorem allL_next (ls : List (List Int)) (x : List Int) : allL (ls ++ [x]) = allL ls ++ recL (cellsA ls) x := by
  rw [allL_snoc, allL_len]
  congr 2
  omega
theorem allL_bytes (ls : List (List Int)) : (∀ x ∈ ls, IsBytes x) → IsBytes (allL ls) := by
  refine snoc_ind (P := fun ls => (∀ x ∈ ls, IsBytes x) → IsBytes (allL ls)) (fun _ x hx => by cases hx) (fun l x ih h => ?_) ls
  rw [allL_snoc]
  exact (ih fun y hy => h y (List.mem_append_left _ hy)).app (recL_bytes (h x (by simp)))
theorem cellsA_le {ls : List (List Int)} {m : Nat} (h : ∀ x ∈ ls, x.length ≤ m) : cellsA ls ≤ ls.length * (m + 1) := by
  induction ls with
  | nil => exact Nat.zero_le _
  | cons x r ih =>
    have h1 := ih fun y hy => h y (List.mem_cons_of_mem _ hy)
    have h2 := h x (by simp)
    have h3 : manyL x.length ≤ m + 1 := by unfold manyL; omega
    simp only [cellsA, List.map_cons, List.sum_cons, List.length_cons] at h1 ⊢
    rw [Nat.succ_mul]
    omega
def endsI (ls : List (List Int)) : Nat → List Int
  | 0 => []
  | i + 1 => endsI ls i ++ [((cellsA (ls.take (i + 1)) : Nat) : Int)]
theorem endsI_len {ls : List (List Int)} : ∀ {i : Nat}, (endsI ls i).length = i
  | 0 => rfl
  | i + 1 => by rw [endsI, List.length_append, endsI_len]; rfl
/-- A slice of bytes, to be read. -/
structure Bx where
  A : Option Addr
  c : Nat
  l : List Int
def Bx.v (s : Bx) : Value := .slice s.A s.l.length s.c
structure LsV (K : List Fa) (R : Option Addr) (xs : List Bx) : Prop where
  vw : Vw K (fun w => Reads w 1 R xs.length (xs.map Bx.v))
  el : ∀ x ∈ xs, Rd K x.A x.l.length x.c x.l
theorem LsV.mono {K K' : List Fa} {R : Option Addr} {xs : List Bx} (h : LsV K R xs) (hs : Sub K' K) : LsV K' R xs := ⟨h.vw.mono hs, fun x hx => (h.el x hx).mono hs⟩
theorem bx_nth {xs : List Bx} {i : Nat} (h : i < xs.length) : nth (xs.map Bx.v) (i * 1) = some (.slice xs[i].A xs[i].l.length xs[i].c) := by
  rw [nth_eq, Nat.mul_one]
  simp [h, Bx.v]
structure Wg2 where
  i : Nat
  A : Option Addr
  c : Nat
  E : Option Addr
  d : Nat
theorem nth_Jm {φ : Prop} (h : φ := by (first | rfl | rfl)) : φ := h
theorem mid_Jm {φ : Prop} (h : φ := by (first | exact Mid.all | exact Mid.all | exact Mid.head)) : φ := h
theorem sz_Jm {φ : Prop} (h : φ := by (first | rfl | (rfl; first | done | fail))) : φ := h
theorem one_Jm {φ : Prop} (h : φ := by (first | assumption | exact one_bytes _ | (simp only [List.mem_cons, List.not_mem_nil, or_false, forall_eq_or_imp, forall_eq]; decide) | exact one_bytes _)) : φ := h
theorem set_Jm {φ : Prop} (h : φ := by (first | (fail) | ((repeat (first | exact SetAt.here | apply SetAt.there)); first | done | fail))) : φ := h
theorem cl_Jm {φ : Prop} (h : φ := by first | rfl | exact .t | exact .f | exact .t (by omega) | exact .f (by omega) | exact .u | exact .i (by (first | exact .t (by omega) | exact .f (by omega) | exact .u | exact .i (by omega) | exact .v (by omega) | exact .b (by omega) | exact .w | rfl | omega)) | exact .v (by omega) | exact .b (by omega) | exact .q (by omega) | exact .w | exact .b (by exact at_) rfl (by exact nth_Jm) | exact .w (by exact at_) rfl rfl (by exact sz_Jm) | exact .s (by exact at_) (by exact mid_Jm) rfl rfl (by exact sz_Jm) | exact .z rfl rfl ⟨by kernel_rfl⟩ | exact .b rfl rfl ⟨by kernel_rfl⟩ | exact .a rfl rfl ⟨by kernel_rfl⟩ | exact .o rfl | exact .s | exact .n | exact .p rfl | exact .q rfl | exact .c rfl | exact .d rfl | exact .n rfl rfl (by omega) | exact .a rfl rfl (by omega) | exact .p rfl rfl (by omega) (by omega) | exact .y rfl rfl (by omega) (by omega) | exact .o (by exact at_) (by omega) rfl (by exact nth_Jm) | exact .m (by exact at_) (by omega) (by exact mid_Jm) rfl rfl (by exact sz_Jm) | exact .mlen (by exact at_) rfl | exact .t (by exact at_) rfl rfl (by first | exact True.intro | rfl) (by assumption) | exact .f (by exact at_) rfl rfl (by first | exact True.intro | rfl) (by assumption) rfl | exact .t1 (by exact at_) rfl rfl (by first | exact True.intro | rfl) (by assumption) | exact .f1 (by exact at_) rfl rfl (by first | exact True.intro | rfl) (by assumption) rfl | exact .r rfl rfl (by omega) (by omega) (by exact nth_Jm) rfl | exact .s rfl (by omega) (by assumption) | exact at_ | assumption | exact .r rfl rfl | exact .h rfl rfl rfl (by omega) | exact .l rfl rfl rfl (by omega) (by omega) | exact .g rfl rfl rfl rfl (by omega) (by omega) | exact .h rfl rfl (toN_ (by omega)) (by omega) | exact .l rfl rfl (toN_ (by omega)) (by omega) (by omega) | exact .g rfl rfl (toN_ (by omega)) (toN_ (by omega)) (by omega) (by omega) | exact .o (by decide) | exact .f (by decide) | exact .n (by omega) (by first | decide | (show _ ≤ ((64 : Nat) : Int); omega)) | (constructor; (repeat (first | exact .t (by omega) | exact .f (by omega) | exact .u | exact .i (by omega) | exact .v (by omega) | exact .b (by omega) | exact .w | rfl | omega)); first | done | fail) | omega | (show _ ≤ ((64 : Nat) : Int); omega)) : φ := h
theorem pv_Jm {φ : Prop} (h : φ := by constructor; (repeat exact cl_Jm); first | done | fail) : φ := h
theorem su_Jm {φ ψ : Prop} (k : ψ) (h : Hide ψ → φ := by (intro k; (first | refine sl_pu (PuI.sep (by exact pv_Jm)) rfl ?_ | refine sl_yes rfl rfl ?_ | refine sl_no rfl rfl rfl ?_ | refine sl_off rfl rfl rfl ?_ | (fail)); exact k.out)) : φ := h ⟨k⟩
theorem rq_Jm {φ ψ : Prop} (k : ψ) (h : Hide ψ → φ := by (intro k; (first | refine wq_pu (PuI.sep (by exact pv_Jm)) rfl ?_ | refine wq_yes rfl rfl ?_ | refine wq_no rfl rfl rfl ?_ | refine wq_off rfl rfl rfl ?_ | (fail)); exact k.out)) : φ := h ⟨k⟩
theorem sto_Jm {φ ψ : Prop} (k : ψ) (h : Hide ψ → φ := by (intro k; (first | refine sl_store rfl (by exact pick_) rfl rfl (by kernel_rfl) (by exact set_Jm) ?_ | refine sl_store_whole rfl (by exact pick_) rfl (by exact sz_Jm) (by exact sz_Jm) (by exact one_Jm) ?_); exact k.out)) : φ := h ⟨k⟩
theorem go_Jm {φ ψ : Prop} (k : ψ) (h : Hide ψ → φ := by (intro k; (repeat (first | refine su_Jm ?_ | refine so_ ?_ | refine sto_Jm ?_)); exact k.out)) : φ := h ⟨k⟩
set_option maxRecDepth 100000 in
set_option maxHeartbeats 4000000 in
theorem lawLay_ok {K : List Fa} {A : Option Addr} {n c k : Nat} {bs : List Int} (h : Rd K A n c bs) (hn : n ≤ 100000) (hk : k ≤ 10000000) :
    Fn Try.prog 16 #[.int .i64 k, .slice A n c] K (Ret (fun _ : Option Addr × Nat => True) (fun q => .slice q.1 (recL k bs).length q.2) (fun q => u8o q.1 q.2 (recL k bs) :: K)) := by
  refine fn_enter Try.func16 rfl _ Try.ntmps16 (by simp) [(0, .int .i64 k), (1, .slice A n c)] (args_of (by simp)) ?_
  have hle := h.le
  have hlen := h.len
  have hm : (if ((n : Int) + 47) / 48 < 1 then (1 : Int) else ((n : Int) + 47) / 48) = manyL n := by
    unfold manyL
    split <;> omega
  have hrec : recL k bs = recF k (manyL n) bs (manyL n) := by rw [recL, hlen]
  rw [hrec, recF_len]
  have hmb : manyL n ≤ 10000 := by unfold manyL; omega
  have hm1 : 1 ≤ manyL n := by unfold manyL; omega
  have hms : (manyL n - 1) * 48 ≤ n := by unfold manyL; omega
  refine go_Jm ?_
  rw [hm]
  generalize manyL n = many at hmb hm1 hms ⊢
  refine sc_for (fun q : Wg => [(0, .int .i64 k), (1, .slice A n c), (5, .int .i64 many), (6, .slice q.A (q.j * 64) q.c), (15, .int .i64 many), (16, .int .i64 q.j)]) (fun q => own 5 1 q.A (q.j * 64) q.c (bytes (recF k many bs q.j)) :: K) (fun q => q.j ≤ many) (fun q => many - q.j) ⟨0, none, 0⟩ (by exact has_) (Sub.own_nil Sub.refl) (Nat.zero_le _) ?_
  rintro ⟨i, B, cb⟩ hi
  replace hi : i ≤ many := hi
  dsimp only
  by_cases hlt : i < many
  · have hin : i * 48 ≤ n := by
      have : i * 48 ≤ (many - 1) * 48 := Nat.mul_le_mul_right _ (by omega)
      omega
    have hmn : (if (n : Int) < ((i : Int) + 1) * 48 then (n : Int) else ((i : Int) + 1) * 48) = ((min ((i + 1) * 48) n : Nat) : Int) := by split <;> omega
    have hr := (h.next (k := i * 48) hin).front (m := min ((i + 1) * 48) n - i * 48) (by omega)
    rw [drop_part hlen] at hr
    have e1 : (k : Int) + i = ((k + i : Nat) : Int) := by omega
    have e2 : (many : Int) - 1 - i = ((many - 1 - i : Nat) : Int) := by omega
    have hpl := partL_len (bs := bs) (i := i)
    have hcell : recF k many bs (i + 1) = recF k many bs i ++ (hashL 9 (bodyL (k + i) (many - 1 - i) (partL bs i)) 8 ++ bodyL (k + i) (many - 1 - i) (partL bs i)) := rfl
    have hbl := bodyL_len (number := k + i) (follow := many - 1 - i) hpl
    have hbb := bodyL_bytes (number := k + i) (follow := many - 1 - i) hr.okb
    have hbd : bodyL (k + i) (many - 1 - i) (partL bs i) = (le ((k + i : Nat) : Int) 3 ++ le ((many - 1 - i : Nat) : Int) 3 ++ le ((partL bs i).length : Int) 2 ++ partL bs i) ++ zs (48 - (partL bs i).length) := rfl
    refine go_Jm ?_
    rw [hmn, show ((i : Int) * 48).toNat = i * 48 by omega, Int.toNat_natCast, e1]
    have hel := hr.len
    generalize min ((i + 1) * 48) n - i * 48 = e at hr hel ⊢
    generalize cutA A c (i * 48) 1 = P at hr ⊢
    generalize c - i * 48 = cp at hr ⊢
    generalize bodyL (k + i) (many - 1 - i) (partL bs i) = body at hcell hbl hbb hbd
    generalize partL bs i = part at hr hel hpl hbd
    subst hel
    refine sl_call rfl rfl (by kernel_rfl) rfl Sub.refl (refUint (n := ((k + i : Nat) : Int)) (k := 3) (by decide) (by omega) (by omega)) ?_
    rintro ⟨A1, c1⟩ -
    refine go_Jm ?_
    rw [e2]
    refine sl_call rfl rfl (by kernel_rfl) rfl Sub.refl (refUint (n := ((many - 1 - i : Nat) : Int)) (k := 3) (by decide) (by omega) (by omega)) ?_
    rintro ⟨A2, c2⟩ -
    refine sl_app (A := A1) (k := 3) (c := c1) rfl (by exact pick_) rfl (Vw.of_own (e := 5) (A := A2) (c := c2) (by exact at_)) (one_bytes _) rfl Try.info5 (by decide) (by decide) rfl (by unfold maxLen; omega) (by omega) ?_
    intro A3 c3
    rw [← bytes_app]
    refine go_Jm ?_
    refine sl_call rfl rfl (by kernel_rfl) rfl Sub.refl (refUint (n := (part.length : Int)) (k := 2) (by decide) (by omega) (by omega)) ?_
    rintro ⟨A4, c4⟩ -
    refine sl_app (A := A3) (k := 3 + 3) (c := c3) rfl (by exact pick_) rfl (Vw.of_own (e := 5) (A := A4) (c := c4) (by exact at_)) (one_bytes _) rfl Try.info5 (by decide) (by decide) rfl (by unfold maxLen; omega) (by omega) ?_
    intro A5 c5
    rw [← bytes_app]
    refine go_Jm ?_
    refine sl_app (A := A5) (k := 3 + 3 + 2) (c := c5) rfl (by exact pick_) rfl (hr.vw.mono (by exact sub_)) (one_bytes _) rfl Try.info5 (by decide) (by decide) rfl (by unfold maxLen; omega) (by omega) ?_
    intro A6 c6
    rw [← bytes_app]
    refine go_Jm ?_
    refine sc_bjoin (fun q : Option Addr × Nat => [(0, .int .i64 k), (1, .slice A n c), (5, .int .i64 many), (6, .slice B (i * 64) cb), (9, .slice q.1 56 q.2), (15, .int .i64 many), (16, .int .i64 i)]) (fun q => own 5 1 q.1 56 q.2 (bytes body) :: own 5 1 B (i * 64) cb (bytes (recF k many bs i)) :: K) (fun _ => True) ?_ ?_
    · generalize le ((k + i : Nat) : Int) 3 ++ le ((many - 1 - i : Nat) : Int) 3 ++ le (part.length : Int) 2 ++ part = pre at hbd ⊢
      refine sc_for (fun q : Wg => [(0, .int .i64 k), (1, .slice A n c), (5, .int .i64 many), (6, .slice B (i * 64) cb), (9, .slice q.A (8 + part.length + q.j) q.c), (15, .int .i64 many), (16, .int .i64 i)]) (fun q => own 5 1 q.A (8 + part.length + q.j) q.c (bytes (pre ++ zs q.j)) :: own 5 1 B (i * 64) cb (bytes (recF k many bs i)) :: K) (fun q => q.j ≤ 48 - part.length) (fun q => 48 - part.length - q.j) ⟨0, A6, c6⟩ (by exact has_) (by show Sub _ (own 5 1 A6 (3 + 3 + 2 + part.length) c6 (bytes (pre ++ zs 0)) :: own 5 1 B (i * 64) cb (bytes (recF k many bs i)) :: K); rw [show zs 0 = [] from rfl, List.append_nil]; exact sub_) (Nat.zero_le _) ?_
      rintro ⟨j, C, cc⟩ hj
      replace hj : j ≤ 48 - part.length := hj
      dsimp only
      by_cases hlj : j < 48 - part.length
      · refine go_Jm ?_
        refine sl_build (size := 1) (e := 5) (cells := bytes [0]) rfl (fun W => by kernel_rfl) rfl (by decide) rfl ?_
        intro gz
        refine sl_app (A := C) (k := 8 + part.length + j) (c := cc) rfl (by exact pick_) rfl (Vw.of_own (e := 5) (A := some ⟨gz, 0, none⟩) (c := 1) (by exact at_)) (one_bytes _) rfl Try.info5 (by decide) (by decide) rfl (by unfold maxLen; omega) (by omega) ?_
        intro C2 cc2
        rw [← bytes_app, List.append_assoc, ← zs_succ]
        refine go_Jm ?_
        exact se_round ⟨j + 1, C2, cc2⟩ (by exact has_) (by exact sub_) hlj (by show 48 - part.length - (j + 1) < 48 - part.length - j; omega)
      · obtain rfl : j = 48 - part.length := by omega
        rw [show 8 + part.length + (48 - part.length) = 56 by omega, ← hbd]
        refine go_Jm ?_
        exact se_mid (C, cc) (by exact has_) (by exact sub_) trivial
    rintro ⟨C, cc⟩ -
    dsimp only
    refine go_Jm ?_
    refine sl_call rfl rfl (by kernel_rfl) rfl Sub.refl (hash_ok (n := 8) (m := 56) (A := C) (c := cc) (by decide) (by decide) (by decide) (Vw.of_own (e := 5) (by exact at_)) hbb hbl (by decide)) ?_
    rintro ⟨A8, c8⟩ -
    refine sl_app (A := B) (k := i * 64) (c := cb) rfl (by exact pick_) rfl (Vw.of_own (e := 5) (A := A8) (c := c8) (by exact at_)) (one_bytes _) rfl Try.info5 (by decide) (by decide) rfl (by unfold maxLen; omega) (by omega) ?_
    intro B2 cb2
    rw [← bytes_app]
    refine go_Jm ?_
    refine sl_app (A := B2) (k := i * 64 + 8) (c := cb2) rfl (by exact pick_) rfl (Vw.of_own (e := 5) (A := C) (c := cc) (by exact at_)) (one_bytes _) rfl Try.info5 (by decide) (by decide) rfl (by unfold maxLen; omega) (by omega) ?_
    intro B3 cb3
    rw [← bytes_app, List.append_assoc, ← hcell, show i * 64 + 8 + 56 = (i + 1) * 64 by omega]
    refine go_Jm ?_
    exact se_round ⟨i + 1, B3, cb3⟩ (by exact has_) (by exact sub_) hlt (by show many - (i + 1) < many - i; omega)
  obtain rfl : i = many := by omega
  refine go_Jm ?_
  refine se_ret1 (B, cb) trivial rfl rfl ?_
  show Sub _ (own 5 1 B (recF k i bs i).length cb (bytes (recF k i bs i)) :: K)
  rw [recF_len]
  exact sub_
set_option maxRecDepth 100000 in
set_option maxHeartbeats 4000000 in
theorem all_ok {K : List Fa} {R : Option Addr} {cr : Nat} {xs : List Bx} (h : LsV K R xs) (hn : xs.length ≤ 100) (hl : ∀ x ∈ xs, x.l.length ≤ 5000) :
    Fn Try.prog 14 #[.slice R xs.length cr] K (Ret (fun _ : (Option Addr × Nat) × (Option Addr × Nat) => True) (fun q => .tuple #[.slice q.1.1 (cellsA (xs.map Bx.l) * 64) q.1.2, .slice q.2.1 xs.length q.2.2]) (fun q => own 5 1 q.1.1 (cellsA (xs.map Bx.l) * 64) q.1.2 (bytes (allL (xs.map Bx.l))) :: own 3 1 q.2.1 xs.length q.2.2 (isv (endsI (xs.map Bx.l) xs.length)) :: K)) := by
  refine fn_enter Try.func14 rfl _ Try.ntmps14 (by simp) [(0, .slice R xs.length cr)] (args_of (by simp)) ?_
  refine go_Jm ?_
  refine sc_for (fun q : Wg2 => [(4, .slice q.A (cellsA ((xs.map Bx.l).take q.i) * 64) q.c), (5, .slice q.E q.i q.d), (8, .slice R xs.length cr), (9, .int .i64 xs.length), (10, .int .i64 q.i)]) (fun q => own 5 1 q.A (cellsA ((xs.map Bx.l).take q.i) * 64) q.c (bytes (allL ((xs.map Bx.l).take q.i))) :: own 3 1 q.E q.i q.d (isv (endsI (xs.map Bx.l) q.i)) :: K) (fun q => q.i ≤ xs.length) (fun q => xs.length - q.i) ⟨0, none, 0, none, 0⟩ (by exact has_) (Sub.own_nil (Sub.own_nil Sub.refl)) (Nat.zero_le _) ?_
  rintro ⟨i, B, cb, E, de⟩ hi
  replace hi : i ≤ xs.length := hi
  dsimp only
  by_cases hlt : i < xs.length
  · have hx := h.el _ (List.getElem_mem hlt)
    have hxl := hl _ (List.getElem_mem hlt)
    have htk : (xs.map Bx.l).take (i + 1) = (xs.map Bx.l).take i ++ [xs[i].l] := by
      rw [List.take_succ_eq_append_getElem (by simpa using hlt)]
      simp
    have hca : cellsA ((xs.map Bx.l).take (i + 1)) = cellsA ((xs.map Bx.l).take i) + manyL xs[i].l.length := by rw [htk, cellsA_snoc]
    have hal : allL ((xs.map Bx.l).take (i + 1)) = allL ((xs.map Bx.l).take i) ++ recL (cellsA ((xs.map Bx.l).take i)) xs[i].l := by rw [htk, allL_next]
    have hen : endsI (xs.map Bx.l) (i + 1) = endsI (xs.map Bx.l) i ++ [((cellsA ((xs.map Bx.l).take (i + 1)) : Nat) : Int)] := rfl
    have hcl : cellsA ((xs.map Bx.l).take i) ≤ 500100 := by
      have h1 := cellsA_le (ls := (xs.map Bx.l).take i) (m := 5000) (fun y hy => by
        obtain ⟨z, hz, rfl⟩ := List.mem_map.1 (List.mem_of_mem_take hy)
        exact hl z hz)
      have h2 : ((xs.map Bx.l).take i).length ≤ 100 := by simp; omega
      have h3 : ((xs.map Bx.l).take i).length * (5000 + 1) ≤ 100 * (5000 + 1) := Nat.mul_le_mul_right _ h2
      omega
    have hml : manyL xs[i].l.length ≤ 5001 := by unfold manyL; omega
    generalize cellsA ((xs.map Bx.l).take i) = ca at hca hal hcl ⊢
    generalize allL ((xs.map Bx.l).take i) = al at hal ⊢
    have hrl := recL_len (k := ca) (bs := xs[i].l)
    refine sc_know (vw_form (h.vw.mono (L' := own 5 1 B (ca * 64) cb (bytes al) :: own 3 1 E i de (isv (endsI (xs.map Bx.l) i)) :: K) (by exact sub_)) (by omega)) ?_
    rintro ⟨ad, rfl⟩
    refine go_Jm ?_
    refine sl_pu (pu_ldr (h.vw.mono (by exact sub_)) (by omega) rfl rfl (bx_nth hlt)) rfl ?_
    refine go_Jm ?_
    rw [show ((ca * 64 : Nat) : Int) / 64 = (ca : Int) by omega]
    refine sl_call rfl rfl (by kernel_rfl) rfl Sub.refl (lawLay_ok (k := ca) (hx.mono (by exact sub_)) (by omega) (by omega)) ?_
    rintro ⟨A2, c2⟩ -
    dsimp only
    refine sl_app (A := B) (k := ca * 64) (c := cb) rfl (by exact pick_) rfl (Vw.of_own (e := 5) (A := A2) (c := c2) (by exact at_)) (one_bytes _) rfl Try.info5 (by decide) (by decide) rfl (by unfold maxLen; omega) (by omega) ?_
    intro B2 cb2
    rw [← bytes_app, ← hal, hrl, show ca * 64 + manyL xs[i].l.length * 64 = (ca + manyL xs[i].l.length) * 64 by omega, ← hca]
    rw [hca] at hen
    refine go_Jm ?_
    rw [show (((cellsA ((xs.map Bx.l).take (i + 1))) * 64 : Nat) : Int) / 64 = ((ca + manyL xs[i].l.length : Nat) : Int) by omega]
    refine sl_build (size := 1) (e := 3) (cells := isv [((ca + manyL xs[i].l.length : Nat) : Int)]) rfl (fun W => by kernel_rfl) rfl (by decide) rfl ?_
    intro gz
    refine sl_app (z := .int .i64 0) (size := 1) (bytes := 8) (A := E) (k := i) (c := de) rfl (by exact pick_) rfl (Vw.of_own (e := 3) (A := some ⟨gz, 0, none⟩) (c := 1) (by exact at_)) isv_one rfl (by kernel_rfl) (by decide) (by decide) rfl (by unfold maxLen; omega) (by omega) ?_
    intro E2 de2
    rw [show isv (endsI (xs.map Bx.l) i) ++ isv [((ca + manyL xs[i].l.length : Nat) : Int)] = isv (endsI (xs.map Bx.l) (i + 1)) by rw [hen]; simp [isv]]
    refine go_Jm ?_
    exact se_round ⟨i + 1, B2, cb2, E2, de2⟩ (by exact has_) (by exact sub_) hlt (by show xs.length - (i + 1) < xs.length - i; omega)
  obtain rfl : i = xs.length := by omega
  rw [List.take_of_length_le (by simp)]
  refine go_Jm ?_
  exact se_ret2 ((B, cb), (E, de)) trivial rfl rfl rfl rfl (by exact sub_)
end Go.Proofs.Ytemhhhikopemmaa
