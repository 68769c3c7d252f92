/- Messages out of bytes: plain laws, no program in sight. -/
import Derived.Test.YtinomilmccopnaaMgd
namespace Go.Proofs.Ytinomilmccopnaa
open Go
def dRaw (k : Nat) (bs : List Int) : Except Int (List Int × List Int) := if bs.length < k then .error 3 else .ok (bs.take k, bs.drop k)
def dUint (k : Nat) (bs : List Int) : Except Int (Int × List Int) := if bs.length < k then .error 3 else .ok (leV (bs.take k), bs.drop k)
def dLong (m : Nat) (bs : List Int) : Except Int (List Int × List Int) :=
  if bs.length < 4 then .error 3 else if m < (leV (bs.take 4)).toNat then .error 4 else if bs.length - 4 < (leV (bs.take 4)).toNat then .error 3
  else .ok ((bs.drop 4).take (leV (bs.take 4)).toNat, bs.drop (4 + (leV (bs.take 4)).toNat))
def dCount (k : Nat) (m : Int) (bs : List Int) : Except Int (Int × List Int) := if bs.length < k then .error 3 else if m < leV (bs.take k) then .error 6 else .ok (leV (bs.take k), bs.drop k)
def decE (bs : List Int) : Except Int (Ent × List Int) := do
  let a ← dRaw 16 bs
  let b ← dUint 6 a.2
  let c ← dUint 1 b.2
  let d ← dLong 65536 c.2
  let e ← dLong 65536 d.2
  pure (⟨a.1, b.1, d.1, e.1, c.1⟩, e.2)
def decEs : Nat → List Int → Except Int (List Ent × List Int)
  | 0, bs => .ok ([], bs)
  | n + 1, bs => do
    let x ← decE bs
    let r ← decEs n x.2
    pure (x.1 :: r.1, r.2)
structure Hd where
  kind : Int
  job : Int
  start : Int
  many : Int
  sum : List Int
  code : Int
  n : Int
def decH (bs : List Int) : Except Int (Hd × List Int) := do
  let a ← dUint 1 bs
  let b ← dUint 6 a.2
  let c ← dUint 6 b.2
  let d ← dUint 2 c.2
  let e ← dRaw 16 d.2
  let f ← dUint 1 e.2
  let g ← dCount 2 256 f.2
  pure (⟨a.1, b.1, c.1, d.1, e.1, f.1, g.1⟩, g.2)
def Hd.msg (h : Hd) (es : List Ent) : Msg := ⟨h.kind, h.job, h.start, h.many, h.sum, h.code, es⟩
def decM (bs : List Int) : Except Int (Msg × List Int) := do
  let h ← decH bs
  let r ← decEs h.1.n.toNat h.2
  pure (h.1.msg r.1, r.2)

/-! What is put is taken. P takes v where s stands, whatever follows; of a part of s nothing is taken. -/
structure Takes {α : Type} (P : List Int → Except Int (α × List Int)) (s : List Int) (v : α) : Prop where
  go : ∀ r, P (s ++ r) = .ok (v, r)
  cut : ∀ k, k < s.length → P (s.take k) = .error 3
theorem Takes.bind {α β : Type} {P : List Int → Except Int (α × List Int)} {Q : α → List Int → Except Int (β × List Int)} {s t : List Int} {v : α} {u : β} (hP : Takes P s v) (hQ : Takes (Q v) t u) : Takes (fun bs => do let a ← P bs; Q a.1 a.2) (s ++ t) u := by
  refine ⟨fun r => ?_, fun k hk => ?_⟩
  · show (P (s ++ t ++ r) >>= fun a => Q a.1 a.2) = _
    rw [List.append_assoc, hP.go]
    exact hQ.go r
  · show (P ((s ++ t).take k) >>= fun a => Q a.1 a.2) = _
    rcases Nat.lt_or_ge k s.length with h | h
    · rw [List.take_append_of_le_length (Nat.le_of_lt h), hP.cut k h]
      rfl
    · rw [List.take_append, List.take_of_length_le h, hP.go]
      exact hQ.cut _ (by rw [List.length_append] at hk; omega)
theorem Takes.map {α β : Type} {P : List Int → Except Int (α × List Int)} {s : List Int} {v : α} (f : α → β) (hP : Takes P s v) : Takes (fun bs => do let a ← P bs; pure (f a.1, a.2)) s (f v) := by
  refine ⟨fun r => ?_, fun k hk => ?_⟩
  · show (P (s ++ r) >>= fun a => pure (f a.1, a.2)) = _
    rw [hP.go]
    rfl
  · show (P (s.take k) >>= fun a => pure (f a.1, a.2)) = _
    rw [hP.cut k hk]
    rfl
theorem dRaw_takes {k : Nat} {s : List Int} (h : s.length = k) : Takes (dRaw k) s s := by
  subst h
  refine ⟨fun r => ?_, fun k hk => ?_⟩
  · unfold dRaw
    rw [if_neg (by rw [List.length_append]; omega), List.take_left, List.drop_left]
  · unfold dRaw
    rw [if_pos (by rw [List.length_take]; omega)]
theorem dUint_takes {k : Nat} {n : Int} (h0 : 0 ≤ n) (h1 : n < 2 ^ (8 * k)) : Takes (dUint k) (le n k) n := by
  have hl := le_len n k
  refine ⟨fun r => ?_, fun j hj => ?_⟩
  · unfold dUint
    rw [if_neg (by rw [List.length_append]; omega)]
    rw [List.take_left' hl, List.drop_left' hl, leV_le n h0, Int.emod_eq_of_lt h0 h1]
  · unfold dUint
    rw [if_pos (by rw [List.length_take]; omega)]
theorem dCount_takes {k : Nat} {n m : Int} (h0 : 0 ≤ n) (h1 : n < 2 ^ (8 * k)) (hm : n ≤ m) : Takes (dCount k m) (le n k) n := by
  have hl := le_len n k
  refine ⟨fun r => ?_, fun j hj => ?_⟩
  · unfold dCount
    rw [if_neg (by rw [List.length_append]; omega)]
    rw [List.take_left' hl, List.drop_left' hl, leV_le n h0, Int.emod_eq_of_lt h0 h1, if_neg (by omega)]
  · unfold dCount
    rw [if_pos (by rw [List.length_take]; omega)]
theorem dLong_takes {m : Nat} {s : List Int} (hm : s.length ≤ m) (hb : m < 1000000000) : Takes (dLong m) (le s.length 4 ++ s) s := by
  have hl := le_len (s.length : Int) 4
  have hv : leV (le s.length 4) = s.length := by rw [leV_le _ (by omega), Int.emod_eq_of_lt (by omega) (by omega)]
  refine ⟨fun r => ?_, fun k hk => ?_⟩
  · unfold dLong
    rw [List.append_assoc, List.take_left' hl, hv, Int.toNat_natCast, if_neg (by simp [le_len]), if_neg (by omega), if_neg (by simp [le_len]), List.drop_left' hl, List.take_left, ← List.append_assoc, List.drop_left' (by simp [le_len])]
  · rw [List.length_append, hl] at hk
    unfold dLong
    by_cases h4 : k < 4
    · rw [if_pos (by rw [List.length_take]; omega)]
    · have e : (le (s.length : Int) 4 ++ s).take k = le s.length 4 ++ s.take (k - 4) := by rw [List.take_append, hl, List.take_of_length_le (by omega)]
      rw [e, List.take_left' hl, hv, Int.toNat_natCast, if_neg (by simp [le_len]), if_neg (by omega), if_pos (by simp [le_len]; omega)]
structure EntOk (e : Ent) : Prop where
  id : e.id.length = 16
  t0 : 0 ≤ e.time
  t1 : e.time ≤ 1099511627776
  c0 : 0 ≤ e.code
  c1 : e.code ≤ 31
  p : e.pub.length ≤ 65536
  s : e.share.length ≤ 65536
theorem decE_takes {e : Ent} (h : EntOk e) : Takes decE (encE e) e := by
  have t := (dRaw_takes h.id).bind (Q := fun a bs => do
    let b ← dUint 6 bs
    let c ← dUint 1 b.2
    let d ← dLong 65536 c.2
    let e ← dLong 65536 d.2
    pure ((⟨a, b.1, d.1, e.1, c.1⟩ : Ent), e.2)) ((dUint_takes (k := 6) (n := e.time) h.t0 (by have := h.t1; omega)).bind (Q := fun b bs => do
    let c ← dUint 1 bs
    let d ← dLong 65536 c.2
    let x ← dLong 65536 d.2
    pure ((⟨e.id, b, d.1, x.1, c.1⟩ : Ent), x.2)) ((dUint_takes (k := 1) (n := e.code) h.c0 (by have := h.c1; omega)).bind (Q := fun c bs => do
    let d ← dLong 65536 bs
    let x ← dLong 65536 d.2
    pure ((⟨e.id, e.time, d.1, x.1, c⟩ : Ent), x.2)) ((dLong_takes h.p (by decide)).bind (Q := fun d bs => do
    let x ← dLong 65536 bs
    pure ((⟨e.id, e.time, d, x.1, e.code⟩ : Ent), x.2)) ((dLong_takes h.s (by decide)).map (fun x => (⟨e.id, e.time, e.pub, x, e.code⟩ : Ent))))))
  have hs : e.id ++ (le e.time 6 ++ (le e.code 1 ++ (le e.pub.length 4 ++ e.pub ++ (le e.share.length 4 ++ e.share)))) = encE e := by simp [encE]
  rw [hs] at t
  exact t
theorem encEs_cons (e : Ent) (r : List Ent) : encEs (e :: r) = encE e ++ encEs r := by simp [encEs]
theorem decEs_takes : ∀ {es : List Ent}, (∀ e ∈ es, EntOk e) → Takes (decEs es.length) (encEs es) es
  | [], _ => ⟨fun r => rfl, fun k hk => by simp [encEs] at hk⟩
  | e :: r, h => by
    have t := (decE_takes (h e (List.mem_cons_self ..))).bind (Q := fun a bs => do let x ← decEs r.length bs; pure (a :: x.1, x.2)) ((decEs_takes (fun x hx => h x (List.mem_cons_of_mem _ hx))).map (fun x => e :: x))
    rw [encEs_cons]
    exact t
structure MsgOk (m : Msg) : Prop where
  k0 : 0 ≤ m.kind
  j0 : 0 ≤ m.job
  s0 : 0 ≤ m.start
  sl : m.sum.length = 16
  ck : msgCheck m = 0
  es : ∀ e ∈ m.es, e.id.length = 16 ∧ 0 ≤ e.time
theorem MsgOk.ent {m : Msg} (h : MsgOk m) : ∀ e ∈ m.es, EntOk e := fun e he => by
  obtain ⟨_, _, _, _, _, _, _, _, _, z10⟩ := msgCheck_zero h.ck
  obtain ⟨h1, h2, h3, h4, h5⟩ := entCheck_zero (z10 e he)
  exact ⟨(h.es e he).1, (h.es e he).2, h1, h2, h3, h4, h5⟩
theorem decM_takes {m : Msg} (h : MsgOk m) : Takes decM (encM m) m := by
  obtain ⟨z1, z2, z3, z4, z5, z6, z7, z8, z9, z10⟩ := msgCheck_zero h.ck
  have hh : Takes decH (encH m) (⟨m.kind, m.job, m.start, m.many, m.sum, m.code, m.es.length⟩ : Hd) := by
    have t := (dUint_takes (k := 1) (n := m.kind) h.k0 (by omega)).bind (Q := fun a bs => do
      let b ← dUint 6 bs
      let c ← dUint 6 b.2
      let d ← dUint 2 c.2
      let e ← dRaw 16 d.2
      let f ← dUint 1 e.2
      let g ← dCount 2 256 f.2
      pure ((⟨a, b.1, c.1, d.1, e.1, f.1, g.1⟩ : Hd), g.2)) ((dUint_takes (k := 6) (n := m.job) h.j0 (by omega)).bind (Q := fun b bs => do
      let c ← dUint 6 bs
      let d ← dUint 2 c.2
      let e ← dRaw 16 d.2
      let f ← dUint 1 e.2
      let g ← dCount 2 256 f.2
      pure ((⟨m.kind, b, c.1, d.1, e.1, f.1, g.1⟩ : Hd), g.2)) ((dUint_takes (k := 6) (n := m.start) h.s0 (by omega)).bind (Q := fun c bs => do
      let d ← dUint 2 bs
      let e ← dRaw 16 d.2
      let f ← dUint 1 e.2
      let g ← dCount 2 256 f.2
      pure ((⟨m.kind, m.job, c, d.1, e.1, f.1, g.1⟩ : Hd), g.2)) ((dUint_takes (k := 2) (n := m.many) z5 (by omega)).bind (Q := fun d bs => do
      let e ← dRaw 16 bs
      let f ← dUint 1 e.2
      let g ← dCount 2 256 f.2
      pure ((⟨m.kind, m.job, m.start, d, e.1, f.1, g.1⟩ : Hd), g.2)) ((dRaw_takes h.sl).bind (Q := fun e bs => do
      let f ← dUint 1 bs
      let g ← dCount 2 256 f.2
      pure ((⟨m.kind, m.job, m.start, m.many, e, f.1, g.1⟩ : Hd), g.2)) ((dUint_takes (k := 1) (n := m.code) z7 (by omega)).bind (Q := fun f bs => do
      let g ← dCount 2 256 bs
      pure ((⟨m.kind, m.job, m.start, m.many, m.sum, f, g.1⟩ : Hd), g.2)) ((dCount_takes (k := 2) (n := (m.es.length : Int)) (m := 256) (by omega) (by omega) (by omega)).map (fun g => (⟨m.kind, m.job, m.start, m.many, m.sum, m.code, g⟩ : Hd))))))))
    have hs : le m.kind 1 ++ (le m.job 6 ++ (le m.start 6 ++ (le m.many 2 ++ (m.sum ++ (le m.code 1 ++ le m.es.length 2))))) = encH m := by simp [encH]
    rw [hs] at t
    exact t
  exact hh.bind (Q := fun h bs => do let r ← decEs h.n.toNat bs; pure (h.msg r.1, r.2)) ((decEs_takes h.ent).map (fun r => (⟨m.kind, m.job, m.start, m.many, m.sum, m.code, r⟩ : Msg)))
theorem encM_inj {a b : Msg} (ha : MsgOk a) (hb : MsgOk b) (h : encM a = encM b) : a = b := by
  have h1 := (decM_takes ha).go []
  have h2 := (decM_takes hb).go []
  rw [h, h2] at h1
  injection h1 with h1
  injection h1 with h1
  exact h1.symm
end Go.Proofs.Ytinomilmccopnaa
