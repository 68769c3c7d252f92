/- Messages as bytes: Encode. -/
import Derived.Test.YtinomilmccopnaaMs3
namespace Go.Proofs.Ytinomilmccopnaa
open Go.RowKit
attribute [local go_sem ↓] Go.wp_at_zero Go.wp_at_succ

set_option maxRecDepth 100000 in
set_option maxHeartbeats 4000000 in
theorem Encode_bad {w : World} {A : Option Addr} {n c : Nat} (m : Msg) (h : EntsIs w A n m.es) (hs : m.sum.length = 16) (hz : ¬ msgCheck m = 0) :
    Calls Try.prog 21 #[.agg (msgCells m A n c).toArray] w fun e w' => e = .returned (.tuple #[.slice none 0 0, .int .i64 (msgCheck m)]) ∧ Fr Nil w w' := by
  obtain ⟨kind, job, start, many, sum, code, es⟩ := m
  simp only at hs h
  obtain ⟨x0, x1, x2, x3, x4, x5, x6, x7, x8, x9, x10, x11, x12, x13, x14, x15, rfl⟩ := len16 hs
  clear hs
  have hFb : Fr Nil w (w.alloc (.cells #[.int .u8 kind, .int .u64 job, .int .u64 start, .int .i64 many, .int .u8 x0, .int .u8 x1, .int .u8 x2, .int .u8 x3, .int .u8 x4, .int .u8 x5, .int .u8 x6, .int .u8 x7, .int .u8 x8, .int .u8 x9, .int .u8 x10, .int .u8 x11, .int .u8 x12, .int .u8 x13, .int .u8 x14, .int .u8 x15, .int .i64 code, .slice A n c] 48)) := (Fr.refl Nil w).alloc _
  have hB := Blk.new w 48 #[.int .u8 kind, .int .u64 job, .int .u64 start, .int .i64 many, .int .u8 x0, .int .u8 x1, .int .u8 x2, .int .u8 x3, .int .u8 x4, .int .u8 x5, .int .u8 x6, .int .u8 x7, .int .u8 x8, .int .u8 x9, .int .u8 x10, .int .u8 x11, .int .u8 x12, .int .u8 x13, .int .u8 x14, .int .u8 x15, .int .i64 code, .slice A n c]
  have hC := Check_any (w := w.alloc (.cells #[.int .u8 kind, .int .u64 job, .int .u64 start, .int .i64 many, .int .u8 x0, .int .u8 x1, .int .u8 x2, .int .u8 x3, .int .u8 x4, .int .u8 x5, .int .u8 x6, .int .u8 x7, .int .u8 x8, .int .u8 x9, .int .u8 x10, .int .u8 x11, .int .u8 x12, .int .u8 x13, .int .u8 x14, .int .u8 x15, .int .i64 code, .slice A n c] 48)) (A := A) (n := n) (c := c) ⟨kind, job, start, many, [x0, x1, x2, x3, x4, x5, x6, x7, x8, x9, x10, x11, x12, x13, x14, x15], code, es⟩ (h.fr hFb) rfl
  generalize msgCheck ⟨kind, job, start, many, [x0, x1, x2, x3, x4, x5, x6, x7, x8, x9, x10, x11, x12, x13, x14, x15], code, es⟩ = z at *
  simp only [msgCells, bytes, List.map_cons, List.map_nil, List.cons_append, List.nil_append] at hC ⊢
  clear h
  go_enter Try.func21, Try.ntmps21
  go_wp2_with (first
    | (refine wpList_load_blk rfl 48 (.tmp 1) rfl _ rfl _ _ hB Try.underlying48 rfl 22 (by kernel_rfl) rfl ?_)
    | (go_at_call 53; refine hC.mono ?_; rintro e' w1 ⟨rfl, hF1⟩))
  refine bodyPost_ret (v := .tuple #[.slice none 0 0, .int .i64 z]) (by simp [results, Try.results21, go_sem]) rfl ⟨rfl, ?_⟩
  exact hFb.trans hF1 (fun _ _ e => e)

set_option maxRecDepth 100000 in
set_option maxHeartbeats 8000000 in
theorem Encode_ok {w : World} {A : Option Addr} {n c : Nat} (m : Msg) (h : EntsIs w A n m.es) (hs : m.sum.length = 16) (hz : msgCheck m = 0) (hj0 : 0 ≤ m.job) (hst0 : 0 ≤ m.start) (ht0 : ∀ e ∈ m.es, 0 ≤ e.time) :
    Calls Try.prog 21 #[.agg (msgCells m A n c).toArray] w fun e w' => ∃ P cp, e = .returned (.tuple #[.slice P (encM m).length cp, .int .i64 0]) ∧ w'.ownsRow 0 5 1 (.slice P (encM m).length cp) (encM m).length (bytes (encM m)) ∧ Fr Nil w w' := by
  obtain ⟨z1, z2, z3, z4, z5, z6, z7, z8, z9, z10⟩ := msgCheck_zero hz
  have hln := h.1
  have HH : (encH m).length = 34 := by simp [encH, le_len, hs]
  unfold encM
  rw [show encH m = le m.kind 1 ++ le m.job 6 ++ le m.start 6 ++ le m.many 2 ++ m.sum ++ le m.code 1 ++ le m.es.length 2 from rfl] at HH ⊢
  obtain ⟨kind, job, start, many, sum, code, es⟩ := m
  simp only at hs h z1 z2 z3 z4 z5 z6 z7 z8 z9 z10 hj0 hst0 ht0 hln HH ⊢
  have hall : ∀ k, (encEs (es.take k)).length ≤ 40000000 := by
    intro k
    have h1 := encEs_len (es := es.take k) (fun e he => by
      have he' := List.mem_of_mem_take he
      have h2 := entCheck_zero (z10 e he')
      obtain ⟨j, hj, rfl⟩ := List.getElem_of_mem he'
      obtain ⟨ad, _, hce⟩ := h.2 (by omega)
      obtain ⟨cs, hE, _⟩ := hce j _ (List.getElem?_eq_getElem hj)
      exact ⟨hE.len, h2.2.2.2.1, h2.2.2.2.2⟩)
    have h3 : (es.take k).length ≤ 256 := by simp; omega
    omega
  obtain ⟨x0, x1, x2, x3, x4, x5, x6, x7, x8, x9, x10, x11, x12, x13, x14, x15, rfl⟩ := len16 hs
  clear hs
  have hFb : Fr Nil w (w.alloc (.cells #[.int .u8 kind, .int .u64 job, .int .u64 start, .int .i64 many, .int .u8 x0, .int .u8 x1, .int .u8 x2, .int .u8 x3, .int .u8 x4, .int .u8 x5, .int .u8 x6, .int .u8 x7, .int .u8 x8, .int .u8 x9, .int .u8 x10, .int .u8 x11, .int .u8 x12, .int .u8 x13, .int .u8 x14, .int .u8 x15, .int .i64 code, .slice A n c] 48)) := (Fr.refl Nil w).alloc _
  have hB := Blk.new w 48 #[.int .u8 kind, .int .u64 job, .int .u64 start, .int .i64 many, .int .u8 x0, .int .u8 x1, .int .u8 x2, .int .u8 x3, .int .u8 x4, .int .u8 x5, .int .u8 x6, .int .u8 x7, .int .u8 x8, .int .u8 x9, .int .u8 x10, .int .u8 x11, .int .u8 x12, .int .u8 x13, .int .u8 x14, .int .u8 x15, .int .i64 code, .slice A n c]
  have hC := Check_any (w := w.alloc (.cells #[.int .u8 kind, .int .u64 job, .int .u64 start, .int .i64 many, .int .u8 x0, .int .u8 x1, .int .u8 x2, .int .u8 x3, .int .u8 x4, .int .u8 x5, .int .u8 x6, .int .u8 x7, .int .u8 x8, .int .u8 x9, .int .u8 x10, .int .u8 x11, .int .u8 x12, .int .u8 x13, .int .u8 x14, .int .u8 x15, .int .i64 code, .slice A n c] 48)) (A := A) (n := n) (c := c) ⟨kind, job, start, many, [x0, x1, x2, x3, x4, x5, x6, x7, x8, x9, x10, x11, x12, x13, x14, x15], code, es⟩ (h.fr hFb) rfl
  rw [hz] at hC
  clear hz
  simp only [msgCells, bytes, List.map_cons, List.map_nil, List.cons_append, List.nil_append] at hC ⊢
  have hk0 : IntKind.u64.wrap kind = kind := by rw [IntKind.wrap_u64]; omega
  have hm0 : IntKind.u64.wrap many = many := by rw [IntKind.wrap_u64]; omega
  have hc0 : IntKind.u64.wrap code = code := by rw [IntKind.wrap_u64]; omega
  have hn0 : IntKind.u64.wrap (n : Int) = n := by rw [IntKind.wrap_u64]; omega
  go_enter Try.func21, Try.ntmps21
  go_wp2_with (first
    | (refine wpList_load_blk rfl 48 (.tmp 1) rfl _ rfl _ _ hB Try.underlying48 rfl 22 (by kernel_rfl) rfl ?_)
    | fail)
  refine hC.mono ?_
  rintro e' w1 ⟨rfl, hF1⟩
  clear hC
  have hB1 := hB.fr hF1 (fun e => e)
  have hB2 := hB1.alloc (.cells #[.slice none 0 0] 55)
  have hW2 : Wri w (w1.alloc (.cells #[.slice none 0 0] 55)) w1.heap.size [] := ⟨.slice none 0 0, ⟨Blk.new w1 _ _, World.ownsRow_nil _ _ _ _⟩, (hFb.trans hF1 (fun _ _ e => e)).size, by simp [Value.ownBlock], (hFb.trans hF1 (fun _ _ e => e)).alloc _⟩
  have hbs : w.heap.size ≠ w1.heap.size := by have := hB1.lt; omega
  have hwb := hB1.lt
  have a0 := hB1.cell 0
  have a1 := hB1.cell 1
  have a2 := hB1.cell 2
  have a3 := hB1.cell 3
  have a20 := hB1.cell 20
  have a21 := hB1.cell 21
  simp at a0 a1 a2 a3 a20 a21
  clear hB hF1 hFb hB1
  have ne1 : 48 ≠ 5 := by decide
  have ne2 : 48 ≠ 55 := by decide
  go_wp2_with fail
  refine (hW2.uint kind (by omega) (by omega) 1 (by simp [le_len])).mono ?_
  rintro e' w3 ⟨rfl, hW3, hK3⟩
  rw [show clamp8 1 = 1 from rfl] at hW3
  have hB3 := hK3 _ _ _ ne1 ne2 hB2
  clear hW2 hK3 hB2 a0 a1 a2 a3 a20 a21
  have b0 := hB3.cell 0
  have b1 := hB3.cell 1
  have b2 := hB3.cell 2
  have b3 := hB3.cell 3
  have b20 := hB3.cell 20
  have b21 := hB3.cell 21
  simp at b0 b1 b2 b3 b20 b21
  go_wp2_with fail
  refine (hW3.uint job (by omega) (by omega) 6 (by simp [le_len])).mono ?_
  rintro e' w4 ⟨rfl, hW4, hK4⟩
  rw [show clamp8 6 = 6 from rfl] at hW4
  have hB4 := hK4 _ _ _ ne1 ne2 hB3
  clear hW3 hK4 hB3 b0 b1 b2 b3 b20 b21
  have c0 := hB4.cell 0
  have c1 := hB4.cell 1
  have c2 := hB4.cell 2
  have c3 := hB4.cell 3
  have c20 := hB4.cell 20
  have c21 := hB4.cell 21
  simp at c0 c1 c2 c3 c20 c21
  go_wp2_with fail
  refine (hW4.uint start (by omega) (by omega) 6 (by simp [le_len])).mono ?_
  rintro e' w5 ⟨rfl, hW5, hK5⟩
  rw [show clamp8 6 = 6 from rfl] at hW5
  have hB5 := hK5 _ _ _ ne1 ne2 hB4
  clear hW4 hK5 hB4 c0 c1 c2 c3 c20 c21
  have d0 := hB5.cell 0
  have d1 := hB5.cell 1
  have d2 := hB5.cell 2
  have d3 := hB5.cell 3
  have d20 := hB5.cell 20
  have d21 := hB5.cell 21
  simp at d0 d1 d2 d3 d20 d21
  go_wp2_with fail
  refine (hW5.uint many (by omega) (by omega) 2 (by simp [le_len])).mono ?_
  rintro e' w6 ⟨rfl, hW6, hK6⟩
  rw [show clamp8 2 = 2 from rfl] at hW6
  have hB6 := hK6 _ _ _ ne1 ne2 hB5
  clear hW5 hK6 hB5 d0 d1 d2 d3 d20 d21
  have e0 := hB6.cell 0
  have e1 := hB6.cell 1
  have e2 := hB6.cell 2
  have e3 := hB6.cell 3
  have e20 := hB6.cell 20
  have e21 := hB6.cell 21
  simp at e0 e1 e2 e3 e20 e21
  have hrd6 : Reads w6 1 (some ⟨w.heap.size, 4, none⟩) 16 (bytes [x0, x1, x2, x3, x4, x5, x6, x7, x8, x9, x10, x11, x12, x13, x14, x15]) := by
    refine ⟨rfl, fun _ => ⟨_, rfl, fun j u hu => ?_⟩⟩
    rw [add_none, hB6.cell]
    have hj : j < 16 := (List.getElem?_eq_some_iff.1 hu).1
    match j, hj with
    | 0, _ | 1, _ | 2, _ | 3, _ | 4, _ | 5, _ | 6, _ | 7, _ | 8, _ | 9, _ | 10, _ | 11, _ | 12, _ | 13, _ | 14, _ | 15, _ => exact hu
  go_wp2_with fail
  refine (hW6.raw hrd6 (by simp [le_len])).mono ?_
  rintro e' w7 ⟨rfl, hW7, hK7⟩
  have hB7 := hK7 _ _ _ ne1 ne2 hB6
  clear hrd6 hW6 hK7 hB6 e0 e1 e2 e3 e20 e21
  have f0 := hB7.cell 0
  have f1 := hB7.cell 1
  have f2 := hB7.cell 2
  have f3 := hB7.cell 3
  have f20 := hB7.cell 20
  have f21 := hB7.cell 21
  simp at f0 f1 f2 f3 f20 f21
  go_wp2_with fail
  refine (hW7.uint code (by omega) (by omega) 1 (by simp [le_len])).mono ?_
  rintro e' w8 ⟨rfl, hW8, hK8⟩
  rw [show clamp8 1 = 1 from rfl] at hW8
  have hB8 := hK8 _ _ _ ne1 ne2 hB7
  clear hW7 hK8 hB7 f0 f1 f2 f3 f20 f21
  have g0 := hB8.cell 0
  have g1 := hB8.cell 1
  have g2 := hB8.cell 2
  have g3 := hB8.cell 3
  have g20 := hB8.cell 20
  have g21 := hB8.cell 21
  simp at g0 g1 g2 g3 g20 g21
  go_wp2_with fail
  refine (hW8.uint n (by omega) (by omega) 2 (by simp [le_len])).mono ?_
  rintro e' w9 ⟨rfl, hW9, hK9⟩
  rw [show clamp8 2 = 2 from rfl] at hW9
  have hB9 := hK9 _ _ _ ne1 ne2 hB8
  clear hW8 hK9 hB8 g0 g1 g2 g3 g20 g21
  have h0 := hB9.cell 0
  have h1 := hB9.cell 1
  have h2 := hB9.cell 2
  have h3 := hB9.cell 3
  have h20 := hB9.cell 20
  have h21 := hB9.cell 21
  simp at h0 h1 h2 h3 h20 h21
  rw [List.nil_append, ← hln] at hW9
  obtain ⟨pre, hpre⟩ : ∃ pre, le kind 1 ++ le job 6 ++ le start 6 ++ le many 2 ++ [x0, x1, x2, x3, x4, x5, x6, x7, x8, x9, x10, x11, x12, x13, x14, x15] ++ le code 1 ++ le (es.length : Int) 2 = pre := ⟨_, rfl⟩
  rw [hpre] at hW9 HH
  have HP := Lib.hid hpre
  clear hpre
  go_wp2_with fail
  go_loopw [42] (fun q wr => ∃ j : Nat, j ≤ n ∧ q = .int .i64 j ∧ Wri w wr w1.heap.size (pre ++ encEs (es.take j))) (fun q _ => n - (intOf q).toNat)
  case atStart => exact ⟨0, Nat.zero_le _, rfl, by simpa [encEs] using hW9⟩
  case round =>
    obtain ⟨j, hj, rfl, hW⟩ := hrel
    have hlj := hall j
    by_cases hlt : j < n
    · have hlti : (j : Int) < (n : Int) := by omega
      have hj0 : (0 : Int) ≤ (j : Int) := by omega
      obtain ⟨ad, rfl, hce⟩ := h.2 (by omega)
      obtain ⟨e, he⟩ : ∃ e, es[j]? = some e := ⟨_, List.getElem?_eq_getElem (by omega)⟩
      obtain ⟨cs, hE, hcells⟩ := hce j e he
      have hcells' : ∀ k v, cs[k]? = some v → wr.cell? ((ad.add (j * 20)).add k) = some v := fun k v hv => cell_fr hW.fr (fun e => e) (hcells k v hv)
      have hem : e ∈ es := List.mem_of_getElem? he
      have het := ht0 e hem
      have hec := entCheck_zero (z10 e hem)
      have hsn := encEs_snoc he
      have hsn2 : (encEs (es.take j) ++ encE e).length ≤ 40000000 := by rw [← hsn]; exact hall (j + 1)
      have HSN := Lib.hid hsn
      have hcl := hE.cells
      have hone := hE.one
      obtain ⟨⟨PA, pn, pc, SA, sn, sc, rfl, hrp, hrs⟩, hlid⟩ := hE
      obtain ⟨id, time, pub, share, ecode⟩ := e
      simp only at hlid het hec hrp hrs
      have hlp := len_of_reads hrp
      have hls := len_of_reads hrs
      simp only [encE, List.length_append, le_len, hlid, hlp, hls] at hsn2
      have hec0 : IntKind.u64.wrap ecode = ecode := by rw [IntKind.wrap_u64]; omega
      clear hsn hce he hcells
      have ne3 : 50 ≠ 5 := by decide
      have ne4 : 50 ≠ 55 := by decide
      go_wp2_with (first
        | (refine wpList_load_at rfl 50 (.tmp 44) rfl _ rfl _ _ hcells' Try.underlying50 rfl 20 (by kernel_rfl) hcl ?_)
        | (refine wpList_store_blk rfl 50 (.tmp 7) (.tmp 45) rfl _ _ rfl rfl (Blk.new wr _ _) 20 (by kernel_rfl) (by simpa using hcl) rfl (by simpa using hone) ?_; intro u1 hE1 hG1)
        | fail)
      have hU1 : Wri w u1 w1.heap.size (pre ++ encEs (es.take j)) := hW.other (S := fun k => k = wr.heap.size) (((Fr.refl (fun k => k = wr.heap.size) wr).alloc _).trans hG1 (fun _ _ e => e)) (fun k hk => by omega)
      have hrid : Reads u1 1 (some ⟨wr.heap.size, 0, none⟩) 16 (bytes id) := by
        refine ⟨by simp [bytes, hlid], fun _ => ⟨_, rfl, fun k u hu => ?_⟩⟩
        rw [add_none, hE1.cell]
        have hk : k < (bytes id).length := (List.getElem?_eq_some_iff.1 hu).1
        simp only [entCells, List.getElem?_toArray, Nat.zero_add]
        rw [List.getElem?_append_left hk]
        exact hu
      clear hcells' hcl hone hG1
      refine (hU1.raw hrid (by rw [List.length_append]; omega)).mono ?_
      rintro e' u2 ⟨rfl, hU2, hK2⟩
      have hE2 := hK2 _ _ _ ne3 ne4 hE1
      clear hrid hU1 hK2 hE1
      have a16 := hE2.cell 16
      have a17 := hE2.cell 17
      have a18 := hE2.cell 18
      have a19 := hE2.cell 19
      simp [entCells, bytes, hlid] at a16 a17 a18 a19
      go_wp2_with fail
      refine (hU2.uint time het (by omega) 6 (by simp only [List.length_append, hlid]; omega)).mono ?_
      rintro e' u3 ⟨rfl, hU3, hK3⟩
      rw [show clamp8 6 = 6 from rfl] at hU3
      have hE3 := hK3 _ _ _ ne3 ne4 hE2
      clear hU2 hK3 hE2 a16 a17 a18 a19
      have b16 := hE3.cell 16
      have b17 := hE3.cell 17
      have b18 := hE3.cell 18
      have b19 := hE3.cell 19
      simp [entCells, bytes, hlid] at b16 b17 b18 b19
      go_wp2_with fail
      refine (hU3.uint ecode (by omega) (by omega) 1 (by simp only [List.length_append, hlid, le_len]; omega)).mono ?_
      rintro e' u4 ⟨rfl, hU4, hK4⟩
      rw [show clamp8 1 = 1 from rfl] at hU4
      have hE4 := hK4 _ _ _ ne3 ne4 hE3
      clear hU3 hK4 hE3 b16 b17 b18 b19
      have c16 := hE4.cell 16
      have c17 := hE4.cell 17
      have c18 := hE4.cell 18
      have c19 := hE4.cell 19
      simp [entCells, bytes, hlid] at c16 c17 c18 c19
      go_wp2_with fail
      refine (hU4.long hrp (by simp only [List.length_append, hlid, le_len]; omega)).mono ?_
      rintro e' u5 ⟨rfl, hU5, hK5⟩
      have hE5 := hK5 _ _ _ ne3 ne4 hE4
      clear hU4 hK5 hE4 c16 c17 c18 c19
      have d16 := hE5.cell 16
      have d17 := hE5.cell 17
      have d18 := hE5.cell 18
      have d19 := hE5.cell 19
      simp [entCells, bytes, hlid] at d16 d17 d18 d19
      go_wp2_with fail
      refine (hU5.long hrs (by simp only [List.length_append, hlid, le_len, hlp]; omega)).mono ?_
      rintro e' u6 ⟨rfl, hU6, hK6⟩
      have hfinal : Wri w u6 w1.heap.size (pre ++ encEs (es.take (j + 1))) := by
        rw [HSN.out]
        simp only [encE, hlp, hls]
        simpa [List.append_assoc] using hU6
      clear hU5 hU6 hK6 hE5 d16 d17 d18 d19
      go_wp2
      go_roundw
      case rel => exact ⟨j + 1, by omega, by go_num, hfinal⟩
      case measure => simp [intOf]; omega
    · obtain rfl : n = j := by omega
      rw [List.take_of_length_le (by omega)] at hW
      obtain ⟨v, hR, hb, hv, hF⟩ := hW
      go_wp2_with fail
      have hl2 : (pre ++ encEs es).length ≤ 70368744177664 := by
        rw [List.length_append, ← List.take_of_length_le (l := es) (i := n) (by omega)]; omega
      refine (WBytes_any hR hl2).mono ?_
      rintro e' u2 ⟨P, cp, rfl, hO, hF2, _⟩
      obtain ⟨L, hL⟩ : ∃ L, L = (pre ++ encEs es).length := ⟨_, rfl⟩
      rw [← hL] at hO ⊢
      clear hl2
      go_wp2
      refine bodyPost_ret (v := .tuple #[.slice P L cp, .int .i64 0]) (by simp [results, Try.results21, go_sem]; rw [hL, List.length_append, HH]) rfl ?_
      rw [HP.out, ← hL]
      exact ⟨P, cp, rfl, hO, hF.trans hF2 (fun _ _ e => e)⟩

end Go.Proofs.Ytinomilmccopnaa
