/- Several texts of one claim, one behind the other. -/
import Derived.Test.YtocaabnbmcpjmaaGreatB04
import Derived.Test.YtocaabnbmcpjmaaGreatB03
import Derived.Laws.StructEq
set_option linter.unusedVariables false
set_option linter.unusedSimpArgs false
namespace Go.Proofs.YtocaabnbmcpjmaaGreat
variable {φ ψ : Prop}
section
open Go.RowKit Go.MapKept
inductive Dc : Prop → Bool → Prop
 | t {φ : Prop} (h : φ) : Dc φ true
 | f {φ : Prop} (h : ¬ φ) : Dc φ false
 | u {φ : Prop} [Decidable φ] : Dc φ (decide φ)
theorem Dc.eq [Decidable φ] {b : Bool} (h : Dc φ b) : decide φ = b := by
 cases h with
 | t h => simp [h]
 | f h => simp [h]
 | u => congr
inductive Pk {α : Type} : Bool → Option α → Option α → α → Prop
 | t {v : α} {o : Option α} : Pk true (some v) o v
 | f {v : α} {o : Option α} : Pk false o (some v) v
inductive Wr : IntKind → Int → Int → Prop
 | i {r : Int} (h : -9223372036854775808 ≤ r ∧ r ≤ 9223372036854775807) : Wr .i64 r r
 | v {r : Int} (h : 0 ≤ r ∧ r ≤ 18446744073709551615) : Wr .u64 r r
 | b {r : Int} (h : 0 ≤ r ∧ r ≤ 255) : Wr .u8 r r
 | q {r : Int} (h : 0 ≤ r ∧ r ≤ 4294967295) : Wr .u32 r r
 | w {k : IntKind} {r : Int} : Wr k r (k.wrap r)
theorem Wr.eq {k : IntKind} {r s : Int} (h : Wr k r s) : k.wrap r = s := by
 cases h with
 | i h => exact IntWalk.i64_in _ h
 | v h => rw [IntKind.wrap_u64, Int.emod_eq_of_lt h.1 (by omega)]
 | b h => rw [IntKind.wrap_u8, Int.emod_eq_of_lt h.1 (by omega)]
 | q h =>
  simp [IntKind.wrap, IntKind.bits, IntKind.signed]
  omega
 | w => rfl
structure KR (φ : Prop) : Prop where
 h : φ
inductive EqV (P : Program) (t : TypeId) : Value → Value → Bool → Prop
 | i {k : IntKind} {p q : Int} {b : Bool} (h : Dc (p = q) b) : EqV P t (.int k p) (.int k q) b
 | o {b c : Bool} (h : P.underlying t = some .bool) : EqV P t (.bool b) (.bool c) (b == c)
 | s {s : ByteArray} : EqV P t (.string s) (.string s) true
 | n {s u : ByteArray} : EqV P t (.string s) (.string u) (s.toList == u.toList)
 | p {e : TypeId} {a : Addr} (h : P.underlying t = some (.pointer e)) : EqV P t (.pointer (some a)) (.pointer none) false
 | q {e : TypeId} (h : P.underlying t = some (.pointer e)) : EqV P t (.pointer none) (.pointer none) true
 | c {e : TypeId} {a : Addr} {m c : Nat} (h : P.underlying t = some (.slice e)) : EqV P t (.slice (some a) m c) (.slice none 0 0) false
 | d {e : TypeId} {m c : Nat} (h : P.underlying t = some (.slice e)) : EqV P t (.slice none m c) (.slice none 0 0) true
inductive ArV : BinOp → Value → Value → Value → Prop
 | add {k : IntKind} {p q r : Int} (h : Wr k (p + q) r) : ArV .add (.int k p) (.int k q) (.int k r)
 | sub {k : IntKind} {p q r : Int} (h : Wr k (p - q) r) : ArV .sub (.int k p) (.int k q) (.int k r)
 | mul {k : IntKind} {p q r : Int} (h : Wr k (p * q) r) : ArV .mul (.int k p) (.int k q) (.int k r)
 | quo {k : IntKind} {p q r : Int} (h0 : 0 ≤ p) (h1 : 0 < q) (h : Wr k (p / q) r) : ArV .quo (.int k p) (.int k q) (.int k r)
 | rem {k : IntKind} {p q : Int} (h0 : 0 ≤ p) (h1 : 0 < q) : ArV .rem (.int k p) (.int k q) (.int k (p % q))
 | and {k : IntKind} {p q : Int} : ArV .and (.int k p) (.int k q) (.int k (bits .and k p q))
 | or {k : IntKind} {p q : Int} : ArV .or (.int k p) (.int k q) (.int k (bits .or k p q))
 | xor {k : IntKind} {p q : Int} : ArV .xor (.int k p) (.int k q) (.int k (bits .xor k p q))
 | lss {k : IntKind} {p q : Int} {b : Bool} (h : Dc (p < q) b) : ArV .lss (.int k p) (.int k q) (.bool b)
 | leq {k : IntKind} {p q : Int} {b : Bool} (h : Dc (p ≤ q) b) : ArV .leq (.int k p) (.int k q) (.bool b)
 | gtr {k : IntKind} {p q : Int} {b : Bool} (h : Dc (q < p) b) : ArV .gtr (.int k p) (.int k q) (.bool b)
 | geq {k : IntKind} {p q : Int} {b : Bool} (h : Dc (q ≤ p) b) : ArV .geq (.int k p) (.int k q) (.bool b)
inductive ShV : Value → Value → Value → Prop
 | o {k k' : IntKind} {p : Int} (h : 1 ≤ (k.bits : Int)) : ShV (.int k p) (.int k' 1) (.int k (p / 2))
 | f {k k' : IntKind} {p : Int} (h : 4 ≤ (k.bits : Int)) : ShV (.int k p) (.int k' 4) (.int k (p / 16))
 | n {k k' : IntKind} {p q : Int} (h : 0 ≤ q) (h' : q ≤ (k.bits : Int)) : ShV (.int k p) (.int k' q) (.int k (p / 2 ^ q.toNat))
inductive LdV (P : Program) (L : List Fa) (t : TypeId) : Addr → Value → Prop
 | b {g i : Nat} {t' : TypeId} {cs : List Value} {v : Value} (h : At (blk g t' cs) L) (ht : plainT P t = true) (hn : nth cs i = some v) : LdV P L t ⟨g, i, none⟩ v
 | w {g : Nat} {t' : TypeId} {td : TypeDesc} {cs : List Value} (h : At (blk g t' cs) L) (hu : P.underlying t = some td) (hd : (match td with | .struct _ | .array _ _ => true | _ => false) = true) (hs : szOf P t = some cs.length) : LdV P L t ⟨g, 0, none⟩ (.agg cs.toArray)
 | s {g i : Nat} {t' : TypeId} {td : TypeDesc} {cs cl : List Value} (h : At (blk g t' cs) L) (hm : Mid cs i cl) (hu : P.underlying t = some td) (hd : (match td with | .struct _ | .array _ _ => true | _ => false) = true) (hs : szOf P t = some cl.length) : LdV P L t ⟨g, i, none⟩ (.agg cl.toArray)
 | o {e : TypeId} {size n c i : Nat} {a : Addr} {xs : List Value} {v : Value} (h : At (own e size (some a) n c xs) L) (hm : 0 < n) (ht : plainT P t = true) (hn : nth xs i = some v) : LdV P L t (a.add i) v
 | m {e : TypeId} {size n c i : Nat} {a : Addr} {td : TypeDesc} {xs cl : List Value} (h : At (own e size (some a) n c xs) L) (hm : 0 < n) (hd0 : Mid xs i cl) (hu : P.underlying t = some td) (hd : (match td with | .struct _ | .array _ _ => true | _ => false) = true) (hs : szOf P t = some cl.length) : LdV P L t (a.add i) (.agg cl.toArray)
def evo (l : Env) : Option Operand → Option (Option Value)
 | none => some none
 | some x => match ev l x with
  | some v => some (some v)
  | none => none
inductive SlV (P : Program) (t : TypeId) : Value → Option Value → Option Value → Value → Prop
 | a {e : TypeId} {sz m c : Nat} {A : Option Addr} (ht : P.underlying t = some (.slice e)) (hs : szOf P e = some sz) (h : m ≤ c) : SlV P t (.slice A m c) none none (.slice A m c)
 | r {e : TypeId} {sz n : Nat} {a : Addr} (ht : P.underlying t = some (.array n e)) (hs : szOf P e = some sz) : SlV P t (.pointer (some a)) none none (.slice (some a) n n)
 | h {e : TypeId} {sz m c j : Nat} {A : Option Addr} {k : IntKind} {p : Int} (ht : P.underlying t = some (.slice e)) (hs : szOf P e = some sz) (hp : p = (j : Int)) (h : j ≤ c) : SlV P t (.slice A m c) none (some (.int k p)) (.slice A j c)
 | l {e : TypeId} {sz m c j : Nat} {A : Option Addr} {k : IntKind} {p : Int} (ht : P.underlying t = some (.slice e)) (hs : szOf P e = some sz) (hp : p = (j : Int)) (h : j ≤ m) (h2 : m ≤ c) : SlV P t (.slice A m c) (some (.int k p)) none (.slice (cutA A c j sz) (m - j) (c - j))
 | g {e : TypeId} {sz m c i j : Nat} {A : Option Addr} {k k' : IntKind} {p q : Int} (ht : P.underlying t = some (.slice e)) (hs : szOf P e = some sz) (hp : p = (i : Int)) (hq : q = (j : Int)) (h : i ≤ j) (h2 : j ≤ c) : SlV P t (.slice A m c) (some (.int k p)) (some (.int k' q)) (.slice (cutA A c i sz) (j - i) (c - i))
inductive IxV (P : Program) (t : TypeId) : Value → Value → Value → Prop
 | n {e : TypeId} {sz m c j : Nat} {a : Addr} {k : IntKind} (ht : P.underlying t = some (.slice e)) (hs : szOf P e = some sz) (h : j < m) : IxV P t (.slice (some a) m c) (.int k (j : Int)) (.pointer (some (a.add (j * sz))))
 | a {e : TypeId} {sz N j g o : Nat} {k : IntKind} (ht : P.underlying t = some (.array N e)) (hs : szOf P e = some sz) (h : j < N) : IxV P t (.pointer (some ⟨g, o, none⟩)) (.int k (j : Int)) (.pointer (some ⟨g, o + j * sz, none⟩))
 | p {e : TypeId} {sz m c : Nat} {a : Addr} {k : IntKind} {p : Int} (ht : P.underlying t = some (.slice e)) (hs : szOf P e = some sz) (h : 0 ≤ p) (h2 : p < m) : IxV P t (.slice (some a) m c) (.int k p) (.pointer (some (a.add (p.toNat * sz))))
 | y {e : TypeId} {sz N g o : Nat} {k : IntKind} {p : Int} (ht : P.underlying t = some (.array N e)) (hs : szOf P e = some sz) (h : 0 ≤ p) (h2 : p < N) : IxV P t (.pointer (some ⟨g, o, none⟩)) (.int k p) (.pointer (some ⟨g, o + p.toNat * sz, none⟩))
inductive LkV (P : Program) (L : List Fa) (t : TypeId) : Nat → Value → Bool → Value → Prop
 | t {g ck : Nat} {d : TypeDesc} {kt e : TypeId} {es : List MapEntry} {k v : Value} (h : At (mp g d es ck) L) (ht : P.underlying t = some (.map kt e)) (hd : P.underlying kt = some d) (hk : IsKey d k) (hg : MGet es k v) : LkV P L t g k true (.tuple #[v, .bool true])
 | f {g ck : Nat} {d : TypeDesc} {kt e : TypeId} {es : List MapEntry} {k z : Value} (h : At (mp g d es ck) L) (ht : P.underlying t = some (.map kt e)) (hd : P.underlying kt = some d) (hk : IsKey d k) (hg : MNo es k) (hz : zeroOf P e = some z) : LkV P L t g k true (.tuple #[z, .bool false])
 | t1 {g ck : Nat} {d : TypeDesc} {kt e : TypeId} {es : List MapEntry} {k v : Value} (h : At (mp g d es ck) L) (ht : P.underlying t = some (.map kt e)) (hd : P.underlying kt = some d) (hk : IsKey d k) (hg : MGet es k v) : LkV P L t g k false v
 | f1 {g ck : Nat} {d : TypeDesc} {kt e : TypeId} {es : List MapEntry} {k z : Value} (h : At (mp g d es ck) L) (ht : P.underlying t = some (.map kt e)) (hd : P.underlying kt = some d) (hk : IsKey d k) (hg : MNo es k) (hz : zeroOf P e = some z) : LkV P L t g k false z
 | tk {g ck : Nat} {d : TypeDesc} {kt e : TypeId} {es : List MapEntry} {k v : Value} (h : At (mp g d es ck) L) (ht : P.underlying t = some (.map kt e)) (hk : KLaw P kt d k) (hg : MGet es k v) : LkV P L t g k true (.tuple #[v, .bool true])
 | fk {g ck : Nat} {d : TypeDesc} {kt e : TypeId} {es : List MapEntry} {k z : Value} (h : At (mp g d es ck) L) (ht : P.underlying t = some (.map kt e)) (hk : KLaw P kt d k) (hg : MNo es k) (hz : zeroOf P e = some z) : LkV P L t g k true (.tuple #[z, .bool false])
 | tk1 {g ck : Nat} {d : TypeDesc} {kt e : TypeId} {es : List MapEntry} {k v : Value} (h : At (mp g d es ck) L) (ht : P.underlying t = some (.map kt e)) (hk : KLaw P kt d k) (hg : MGet es k v) : LkV P L t g k false v
 | fk1 {g ck : Nat} {d : TypeDesc} {kt e : TypeId} {es : List MapEntry} {k z : Value} (h : At (mp g d es ck) L) (ht : P.underlying t = some (.map kt e)) (hk : KLaw P kt d k) (hg : MNo es k) (hz : zeroOf P e = some z) : LkV P L t g k false z
inductive IvV (P : Program) (t : TypeId) : Value → Int → Value → Prop
 | r {e : TypeId} {N : Nat} {cs : List Value} {p : Int} {v : Value} (ht : P.underlying t = some (.array N e)) (he : plainT P e = true) (h0 : 0 ≤ p) (h1 : p < N) (hn : nth cs p.toNat = some v) (hv : v.oneCell' = true) : IvV P t (.agg cs.toArray) p v
 | s {s : ByteArray} {p : Int} {b : UInt8} (ht : P.underlying t = some .string) (h0 : 0 ≤ p) (hn : s[p.toNat]? = some b) : IvV P t (.string s) p (.int .u8 b.toNat)
inductive FaV (P : Program) (t : TypeId) (i : Nat) : Addr → Addr → Prop
 | z {g o : Nat} {fs : List Field} (ht : P.underlying t = some (.struct fs.toArray)) (hf : fieldOff fs i = some o) (hz : KR (stOf P t = true)) : FaV P t i ⟨g, 0, none⟩ ⟨g, o, none⟩
 | b {g j o : Nat} {fs : List Field} (ht : P.underlying t = some (.struct fs.toArray)) (hf : fieldOff fs i = some o) (hz : KR (stOf P t = true)) : FaV P t i ⟨g, j, none⟩ ⟨g, j + o, none⟩
 | a {a : Addr} {o : Nat} {fs : List Field} (ht : P.underlying t = some (.struct fs.toArray)) (hf : fieldOff fs i = some o) (hz : KR (stOf P t = true)) : FaV P t i a (a.add o)
inductive BiV (P : Program) (L : List Fa) : Builtin → List Value → List TypeId → Value → Prop
 | len {e t : TypeId} {A : Option Addr} {m c : Nat} (h : P.underlying t = some (.slice e)) : BiV P L .len [.slice A m c] [t] (.int .i64 m)
 | str {t : TypeId} {s : ByteArray} (h : P.underlying t = some .string) : BiV P L .len [.string s] [t] (.int .i64 s.size)
 | cap {e t : TypeId} {A : Option Addr} {m c : Nat} (h : P.underlying t = some (.slice e)) : BiV P L .cap [.slice A m c] [t] (.int .i64 c)
 | mlen {t kt e : TypeId} {g ck : Nat} {d : TypeDesc} {es : List MapEntry} (hb : At (mp g d es ck) L) (h : P.underlying t = some (.map kt e)) : BiV P L .len [.map (some g)] [t] (.int .i64 es.length)
 | min {t t' : TypeId} {k k' : IntKind} {p q : Int} : BiV P L .min [.int k p, .int k' q] [t, t'] (.int k (if q < p then q else p))
 | max {t t' : TypeId} {k k' : IntKind} {p q : Int} : BiV P L .max [.int k p, .int k' q] [t, t'] (.int k (if p < q then q else p))
inductive PuI (P : Program) (L : List Fa) (l : Env) : Op → Value → Prop
 | move {x : Operand} {v : Value} (h : ev l x = some v) : PuI P L l (.move x) v
 | assign {x : Operand} {v : Value} (h : ev l x = some v) : PuI P L l (.assign x) v
 | pick {x y z : Operand} {b : Bool} {v : Value} (h : ev l x = some (.bool b)) (hp : Pk b (ev l y) (ev l z) v) : PuI P L l (.pick x y z) v
 | not {t : TypeId} {x : Operand} {b : Bool} (h : ev l x = some (.bool b)) : PuI P L l (.unOp .not t x) (.bool (!b))
 | neg {t : TypeId} {x : Operand} {k : IntKind} {p r : Int} (h : ev l x = some (.int k p)) (hw : Wr k (-p) r) : PuI P L l (.unOp .neg t x) (.int k r)
 | eql {t t' : TypeId} {x y : Operand} {v u : Value} {b : Bool} (h : ev l x = some v) (h2 : ev l y = some u) (he : EqV P t v u b) : PuI P L l (.binOp .eql t x y t') (.bool b)
 | neq {t t' : TypeId} {x y : Operand} {v u : Value} {b : Bool} (h : ev l x = some v) (h2 : ev l y = some u) (he : EqV P t v u b) : PuI P L l (.binOp .neq t x y t') (.bool (!b))
 | shl {t t' : TypeId} {x y : Operand} {k k' : IntKind} {p q r : Int} (h : ev l x = some (.int k p)) (h2 : ev l y = some (.int k' q)) (h0 : 0 ≤ q) (h1 : q ≤ k.bits) (hw : Wr k (p * 2 ^ q.toNat) r) : PuI P L l (.binOp .shl t x y t') (.int k r)
 | shr {t t' : TypeId} {x y : Operand} {v u r : Value} (h : ev l x = some v) (h2 : ev l y = some u) (hs : ShV v u r) : PuI P L l (.binOp .shr t x y t') r
 | ar {o : BinOp} {t t' : TypeId} {x y : Operand} {v u r : Value} (h : ev l x = some v) (h2 : ev l y = some u) (ha : ArV o v u r) : PuI P L l (.binOp o t x y t') r
 | load {t : TypeId} {x : Operand} {a : Addr} {v : Value} (h : ev l x = some (.pointer (some a))) (hl : LdV P L t a v) : PuI P L l (.load t x) v
 | fa {t : TypeId} {x : Operand} {i : Nat} {a b : Addr} (h : ev l x = some (.pointer (some a))) (hf : FaV P t i a b) : PuI P L l (.fieldAddr t x i) (.pointer (some b))
 | nilCheck {x : Operand} {a : Addr} (h : ev l x = some (.pointer (some a))) : PuI P L l (.nilCheck x) (.pointer (some a))
 | com {t : TypeId} {x : Operand} {k : IntKind} {p : Int} (h : ev l x = some (.int k p)) : PuI P L l (.unOp .xor t x) (.int k (compl k p))
 | look {t : TypeId} {x y : Operand} {c : Bool} {g : Nat} {k v : Value} (h : ev l x = some (.map (some g))) (h2 : ev l y = some k) (hl : LkV P L t g k c v) : PuI P L l (.lookup t x y c) v
 | entry {x : Operand} {r g ck : Nat} {d : TypeDesc} {es vs : List MapEntry} {me : MapEntry} (h : ev l x = some (.pointer (some ⟨r, 0, none⟩))) (hi : At (itr r g ck (vs ++ [me])) L) (hb : At (mp g d es ck) L) (he : me ∈ es) : PuI P L l (.entry x) (.tuple #[me.key, me.val])
 | sl3 {t e : TypeId} {x y z : Operand} {A : Option Addr} {m c i j sz : Nat} {k k' : IntKind} {p q : Int} (h : ev l x = some (.slice A m c)) (h2 : ev l y = some (.int k p)) (h3 : ev l z = some (.int k' q)) (ht : P.underlying t = some (.slice e)) (hs : szOf P e = some sz) (hp : p = (i : Int)) (hq : q = (j : Int)) (h1 : i ≤ j) (h4 : j ≤ c) : PuI P L l (.slice t x none (some y) (some z)) (.slice A i j)
 | index {t : TypeId} {x y : Operand} {k : IntKind} {p : Int} {v u : Value} (h : ev l x = some v) (h2 : ev l y = some (.int k p)) (hi : IvV P t v p u) : PuI P L l (.index t x y) u
 | extract {x : Operand} {i : Nat} {vs : List Value} {v : Value} (h : ev l x = some (.tuple vs.toArray)) (hn : nth vs i = some v) : PuI P L l (.extract x i) v
 | mkf {f : FuncId} {xs : List Operand} {vs : List Value} (h : evs l xs = some vs) : PuI P L l (.makeFunc (.func f) #[] xs.toArray) (.func (.func f) #[] vs.toArray)
 | conv {t t' : TypeId} {x : Operand} {k k' : IntKind} {p r : Int} (h : ev l x = some (.int k p)) (hs : (P.underlying t).isSome = true) (hd : P.underlying t' = some (.int k')) (hw : Wr k' p r) : PuI P L l (.convert t t' x) (.int k' r)
 | bi {b : Builtin} {xs : List Operand} {ts : List TypeId} {vs : List Value} {v : Value} (h : evs l xs = some vs) (hb : BiV P L b vs ts v) : PuI P L l (.call { callee := .builtin b, args := xs.toArray, argTypes := ts.toArray }) v
 | ia {t : TypeId} {x y : Operand} {v u r : Value} (h : ev l x = some v) (h2 : ev l y = some u) (hi : IxV P t v u r) : PuI P L l (.indexAddr t x y) r
 | sl {t : TypeId} {x : Operand} {lo hi : Option Operand} {v r : Value} {a b : Option Value} (h : ev l x = some v) (h2 : evo l lo = some a) (h3 : evo l hi = some b) (hs : SlV P t v a b r) : PuI P L l (.slice t x lo hi none) r
section
variable {P : Program} {C : World → Prop} {n : Nat} {l : Env} {L : List Fa} {ty : TypeId} {op : Op} {v : Value}
theorem evs1 {x : Operand} {v : Value} (h : evs l [x] = some [v]) : ev l x = some v := by
 simp only [evs] at h
 cases hx : ev l x with
 | none => rw [hx] at h; cases h
 | some u => rw [hx] at h; simp at h; rw [h]
theorem evs2 {x y : Operand} {v u : Value} (h : evs l [x, y] = some [v, u]) : ev l x = some v ∧ ev l y = some u := by
 simp only [evs] at h
 cases hx : ev l x with
 | none => rw [hx] at h; cases h
 | some a =>
  cases hy : ev l y with
  | none => rw [hx, hy] at h; cases h
  | some b => rw [hx, hy] at h; simp at h; rw [h.1, h.2]; exact ⟨rfl, rfl⟩
theorem evs_len : ∀ {xs : List Operand} {vs : List Value}, evs l xs = some vs → xs.length = vs.length
 | [], vs, h => by simp [evs] at h; subst h; rfl
 | x :: r, vs, h => by
  rw [evs] at h
  split at h
  ·rename_i v vs' h1 h2
   simp at h
   subst h
   simp [evs_len h2]
  ·cases h
theorem evo_none : ∀ {o : Option Operand}, evo l o = some none → o = none
 | none, _ => rfl
 | some x, h => by
  simp only [evo] at h
  cases hx : ev l x with
  | none => rw [hx] at h; simp at h
  | some v => rw [hx] at h; simp at h
theorem evo_some : ∀ {o : Option Operand} {v : Value}, evo l o = some (some v) → ∃ x, o = some x ∧ ev l x = some v
 | none, v, h => by simp [evo] at h
 | some x, v, h => by
  simp only [evo] at h
  cases hx : ev l x with
  | none => rw [hx] at h; simp at h
  | some u =>
   rw [hx] at h
   simp at h
   exact ⟨x, rfl, by rw [hx, h]⟩
theorem PuI.pu (hC : ∀ W, C W → ∀ f, At f L → f.P W) (h : PuI P L l op v) : Pu P C n l op ty v := by
 cases h with
 | move h => exact pu_move h
 | assign h => exact pu_assign h
 | @pick x y z b v h hp =>
  cases b with
  | true =>
   generalize hy : ev l y = oy at hp
   cases hp
   exact pu_pick_t h hy
  | false =>
   generalize hz : ev l z = oz at hp
   cases hp
   exact pu_pick_f h hz
 | not h => exact pu_not h
 | neg h hw => rw [← hw.eq]; exact pu_neg h
 | eql h h2 he =>
  cases he with
  | i hd => rw [← hd.eq]; exact pu_eql_d h h2
  | o ht => exact pu_bool_eql ht h h2
  | s => exact pu_str_eql_same h h2
  | n => exact pu_str_eql h h2
  | p ht => exact pu_ptr_some_eql h h2 ht
  | q ht => exact pu_ptr_none_eql h h2 ht
  | c ht => exact pu_slice_some_eql h h2 ht
  | d ht => exact pu_slice_none_eql h h2 ht
 | neq h h2 he =>
  cases he with
  | i hd => rw [← hd.eq]; exact pu_neq_d h h2
  | o ht => exact pu_bool_neq ht h h2
  | s => exact pu_str_neq_same h h2
  | n => exact pu_str_neq h h2
  | p ht => exact pu_ptr_some_neq h h2 ht
  | q ht => exact pu_ptr_none_neq h h2 ht
  | c ht => exact pu_slice_some_neq h h2 ht
  | d ht => exact pu_slice_none_neq h h2 ht
 | shl h h2 h0 h1 hw => rw [← hw.eq]; exact pu_shl h h2 h0 h1
 | shr h h2 hs =>
  cases hs with
  | o hb => exact pu_shr_1 h h2 hb
  | f hb => exact pu_shr_4 h h2 hb
  | n h0 hb => exact pu_shr h h2 h0 hb
 | ar h h2 ha =>
  cases ha with
  | add hw => rw [← hw.eq]; exact pu_add_w h h2
  | sub hw => rw [← hw.eq]; exact pu_sub_w h h2
  | mul hw => rw [← hw.eq]; exact pu_mul_w h h2
  | quo h0 h1 hw => rw [← hw.eq]; exact pu_quo_0 h h2 h0 h1
  | rem h0 h1 => exact pu_rem_0 h h2 h0 h1
  | and => exact pu_and h h2
  | or => exact pu_or h h2
  | xor => exact pu_xor h h2
  | lss hd => rw [← hd.eq]; exact pu_lss h h2
  | leq hd => rw [← hd.eq]; exact pu_leq h h2
  | gtr hd => rw [← hd.eq]; exact pu_gtr h h2
  | geq hd => rw [← hd.eq]; exact pu_geq h h2
 | load h hl =>
  cases hl with
  | @b g i t' cs v hb ht hn => exact pu_load_b h ht (fun W hW => by have := hC W hW _ hb; unfold blk at this; exact this) (by simpa using hn)
  | @w g t' td cs hb hu hd hs => exact pu_load_agg (cs := cs) h hu hd (by simpa using hs) (fun W hW j v hj => by
      have hb' : Blk W g t' cs.toArray := by have := hC W hW _ hb; unfold blk at this; exact this
      rw [add_none, Nat.zero_add, hb'.cell]
      simpa using hj)
  | @s g i t' td cs cl hb hm hu hd hs => exact pu_load_agg h hu hd hs (fun W hW j v hj => by
      have hb' : Blk W g t' cs.toArray := by have := hC W hW _ hb; unfold blk at this; exact this
      rw [add_none, hb'.cell]
      simpa using hm j v hj)
  | @o e size m c i a xs v hb hm ht hn => exact pu_load h ht (fun W hW => by
      have hO := hC W hW _ hb
      unfold own at hO
      obtain ⟨ad', e1, h2⟩ := (Reads.of_own hO).2 hm
      cases e1
      exact h2 i v (by rw [← nth_eq]; exact hn))
  | @m e size m c i a td xs cl hb hm hd0 hu hd hs => exact pu_load_agg h hu hd hs (fun W hW j v hj => by
      have hO := hC W hW _ hb
      unfold own at hO
      obtain ⟨ad', e1, h2⟩ := (Reads.of_own hO).2 hm
      cases e1
      rw [add_twice]
      exact h2 _ v (hd0 j v hj))
 | fa h hf =>
  cases hf with
  | z ht hf hz => exact pu_fieldAddr_0 h ht hf hz.h
  | b ht hf hz => exact pu_fieldAddr_b h ht hf hz.h
  | a ht hf hz => exact pu_fieldAddr h ht hf hz.h
 | nilCheck h => exact pu_nilCheck h
 | com h => exact pu_com h
 | look h h2 hl =>
  cases hl with
  | t hb ht hd hk hg => exact pu_look (c := true) (fun W hW => hC W hW _ hb) h h2 ht hd hk hg
  | f hb ht hd hk hg hz => exact pu_look_no (c := true) (fun W hW => hC W hW _ hb) h h2 ht hd hk hg hz
  | t1 hb ht hd hk hg => exact pu_look (c := false) (fun W hW => hC W hW _ hb) h h2 ht hd hk hg
  | f1 hb ht hd hk hg hz => exact pu_look_no (c := false) (fun W hW => hC W hW _ hb) h h2 ht hd hk hg hz
  | tk hb ht hk hg => exact pu_lookK (c := true) (fun W hW => hC W hW _ hb) h h2 ht hk hg
  | fk hb ht hk hg hz => exact pu_look_noK (c := true) (fun W hW => hC W hW _ hb) h h2 ht hk hg hz
  | tk1 hb ht hk hg => exact pu_lookK (c := false) (fun W hW => hC W hW _ hb) h h2 ht hk hg
  | fk1 hb ht hk hg hz => exact pu_look_noK (c := false) (fun W hW => hC W hW _ hb) h h2 ht hk hg hz
 | entry h hi hb he => exact pu_entry (fun W hW => hC W hW _ hb) (fun W hW => hC W hW _ hi) h he
 | sl3 h h2 h3 ht hs hp hq h1 h4 => exact pu_slice_m h h2 h3 ht hs hp hq h1 h4
 | index h h2 hi =>
  cases hi with
  | r ht he h0 h1 hn hv => exact pu_index_arr h h2 ht he h0 h1 hn hv
  | s ht h0 hn => exact pu_index_str h h2 ht h0 hn
 | extract h hn => exact pu_extract h hn
 | mkf h => exact pu_makeFunc h
 | conv h hs hd hw => rw [← hw.eq]; exact pu_conv h hs hd
 | @bi b xs ts vs v h hb =>
  have hl := evs_len h
  cases hb with
  | len ht =>
   match xs, hl with
   | [x], _ => exact pu_len (evs1 h) ht
  | str ht =>
   match xs, hl with
   | [x], _ => exact pu_len_str (evs1 h) ht
  | mlen hb ht =>
   match xs, hl with
   | [x], _ => exact pu_lenm (fun W hW => hC W hW _ hb) (evs1 h) ht
  | cap ht =>
   match xs, hl with
   | [x], _ => exact pu_cap (evs1 h) ht
  | min =>
   match xs, hl with
   | [x, y], _ => exact pu_min (evs2 h).1 (evs2 h).2
  | max =>
   match xs, hl with
   | [x, y], _ => exact pu_max (evs2 h).1 (evs2 h).2
 | ia h h2 hi =>
  cases hi with
  | n ht hs hj => exact pu_indexAddr_n h h2 ht hs hj
  | a ht hs hj => exact pu_indexAddr_a h h2 ht hs hj
  | p ht hs h0 h1 => exact pu_indexAddr h h2 ht hs h0 h1
  | y ht hs h0 h1 => exact pu_indexAddr_y h h2 ht hs h0 h1
 | @sl t x lo hi v r a b h h2 h3 hs =>
  have ex : ∀ {o : Option Operand}, evo l o = some none → o = none := fun {o} ho => evo_none ho
  have ey : ∀ {o : Option Operand} {v : Value}, evo l o = some (some v) → ∃ x, o = some x ∧ ev l x = some v := fun {o v} ho => evo_some ho
  cases hs with
  | a ht hz hm =>
   obtain rfl := ex h2
   obtain rfl := ex h3
   exact pu_slice_a h ht hz hm
  | r ht hz =>
   obtain rfl := ex h2
   obtain rfl := ex h3
   exact pu_slice_arr h ht hz
  | h ht hz hp hj =>
   obtain rfl := ex h2
   obtain ⟨y, rfl, hy⟩ := ey h3
   exact pu_slice_hn h hy ht hz hp hj
  | l ht hz hp hj hm =>
   obtain ⟨y, rfl, hy⟩ := ey h2
   obtain rfl := ex h3
   exact pu_slice_ln h hy ht hz hp hj hm
  | g ht hz hp hq hj hm =>
   obtain ⟨y, rfl, hy⟩ := ey h2
   obtain ⟨z, rfl, hz'⟩ := ey h3
   exact pu_slice_lhn h hy hz' ht hz hp hq hj hm
theorem PuI.sep (h : PuI P L l op v) : Pu P (In L) n l op ty v := h.pu fun _ hW _ hf => hW.at hf
theorem PuI.all (h : PuI P L l op v) : Pu P (fun W => AllP W L) n l op ty v := h.pu fun _ hW _ hf => hW.at hf
end
inductive CkC : Bool → Code → Code → Code → Prop
 | t {x y : Code} : CkC true x y x
 | f {x y : Code} : CkC false x y y
inductive BkI : Exit → Nat → Exit → Prop
 | n {id : Nat} : BkI .normal id .normal
 | h {id : Nat} : BkI (.exit id) id .normal
 | m {id id' : Nat} (h : Nat.beq id' id = false) : BkI (.exit id') id (.exit id')
 | r {id : Nat} : BkI .ret id .ret
 | p {id : Nat} {c : List PanicEntry} : BkI (.panic c) id (.panic c)
inductive PsI : Exit → Prop
 | x {id : Nat} : PsI (.exit id)
 | r : PsI .ret
 | p {c : List PanicEntry} : PsI (.panic c)
section
variable {P : Program} {Q : Exit → Act → World → Prop} {n : Nat} {l : Env} {L : List Fa}
theorem sc_cond {c : Operand} {x y z : Code} {b : Bool} (hc : ev l c = some (.bool b)) (hk : CkC b x y z) (h : SC P z Q n l L) : SC P (.cond c x y) Q n l L := by
 cases hk with
 | t => exact sc_if_t hc h
 | f => exact sc_if_f hc h
theorem se_blk {e e' : Exit} {id : Nat} (hb : BkI e id e') (h : SE Q e' n l L) : SE (Exit.inBlock id Q) e n l L := by
 cases hb with
 | n => exact se_block h
 | h => exact se_block_hit h
 | m hm => exact se_block_miss hm h
 | r => exact se_block_ret h
 | p => exact se_block_panic h
theorem se_pass {K : Act → World → Prop} {e : Exit} (hp : PsI e) (h : SE Q e n l L) : SE (Exit.then K Q) e n l L := by
 cases hp with
 | x => exact se_then_exit h
 | r => exact se_then_ret h
 | p => exact se_then_panic h
end
end
section
open Go.RowKit
section
variable {P : Program} {w : World} {d off k : Nat} {xs ys : List Value} {f : Field} {fs : List Field} {r : Bool}
theorem run_part_cell {t : TypeId} {v : Value} (ht : plainT P t = true) (hx : nth xs off = some v) : (part t xs.toArray off).run P w = .ok v w := by
 obtain ⟨⟨dd, hu, hagg⟩, _⟩ := plainT_spec ht
 unfold part
 rw [Sem.run_bind, hagg w, Result.andThen_ok]
 have : xs[off]? = some v := by rw [← nth_eq]; exact hx
 simp [this]
theorem run_part_mid {t : TypeId} {td : TypeDesc} {cl : List Value} (hu : P.underlying t = some td) (hd : (match td with | .struct _ | .array _ _ => true | _ => false) = true) (hs : szOf P t = some cl.length) (hm : Mid xs off cl) : (part t xs.toArray off).run P w = .ok (.agg cl.toArray) w := by
 have hagg : (isAgg t).run P w = .ok true w := by
  unfold isAgg
  rw [Sem.run_bind, run_underlying hu w]
  cases td <;> simp_all
 have he : (xs.drop off).take cl.length = cl := by
  apply List.ext_getElem?
  intro j; rw [List.getElem?_take, List.getElem?_drop]
  split
  ·rename_i hj
   rw [List.getElem?_eq_getElem hj]; exact hm j _ (List.getElem?_eq_getElem hj)
  ·rw [List.getElem?_eq_none (by omega)]
 unfold part
 rw [Sem.run_bind, hagg, Result.andThen_ok]
 simp [run_size hs, he]
theorem eqF_nil : (Op.eqFields d xs.toArray ys.toArray []).run P w = .ok true w := rfl
theorem eqF_step {a b : Value} {q : Bool} (hn : f.name ≠ "_") (hx : (part f.type xs.toArray f.offset).run P w = .ok a w) (hy : (part f.type ys.toArray f.offset).run P w = .ok b w) (he : (Op.equalIn d f.type a b).run P w = .ok q w) (hr : (Op.eqFields d xs.toArray ys.toArray fs).run P w = .ok r w) :
  (Op.eqFields d xs.toArray ys.toArray (f :: fs)).run P w = .ok (q && r) w := by
 unfold Op.eqFields
 rw [if_pos hn, Sem.run_bind, hx, Result.andThen_ok, Sem.run_bind, hy, Result.andThen_ok, Sem.run_bind, he, Result.andThen_ok]
 cases q with
 | true => simpa using hr
 | false => rfl
theorem eqF_int {kk kk' : IntKind} {a b : Int} (hn : f.name ≠ "_") (ht : plainT P f.type = true) (hu : P.underlying f.type = some (.int kk')) (hx : nth xs f.offset = some (.int kk a)) (hy : nth ys f.offset = some (.int kk b)) (hr : (Op.eqFields (d + 1) xs.toArray ys.toArray fs).run P w = .ok r w) :
  (Op.eqFields (d + 1) xs.toArray ys.toArray (f :: fs)).run P w = .ok (decide (a = b) && r) w := by
 refine eqF_step hn (run_part_cell ht hx) (run_part_cell ht hy) ?_ hr
 rw [run_equalIn_int w d f.type kk kk' a b hu]
 congr 1
theorem eqF_arr {e : TypeId} {n : Nat} {us vs : List Int} (hn : f.name ≠ "_") (hu : P.underlying f.type = some (.array n e)) (he : P.underlying e = some (.int .u8)) (hz : szOf P e = some 1) (hs : szOf P f.type = some n) (hx : Mid xs f.offset (bytes us)) (hy : Mid ys f.offset (bytes vs)) (hla : us.length = n) (hlb : vs.length = n) (ha : IsBytes us) (hb : IsBytes vs)
  (hr : (Op.eqFields (d + 2) xs.toArray ys.toArray fs).run P w = .ok r w) : (Op.eqFields (d + 2) xs.toArray ys.toArray (f :: fs)).run P w = .ok (decide (us = vs) && r) w := by
 refine eqF_step hn (run_part_mid hu rfl (by rw [hs]; simp [bytes, hla]) hx) (run_part_mid hu rfl (by rw [hs]; simp [bytes, hlb]) hy) ?_ hr
 rw [u8s_cell ha, u8s_cell hb, run_equalIn_bytes w d f.type e n hu he (run_size hz) _ _ (by simp [u8s, hla]) (by simp [u8s, hlb]), u8s_eq ha hb]
theorem pu_eqs {C : World → Prop} {n : Nat} {l : Env} {ty t t' : TypeId} {x y : Operand} {q : Bool} (hx : ev l x = some (.agg xs.toArray)) (hy : ev l y = some (.agg ys.toArray)) (ht : P.underlying t = some (.struct fs.toArray)) (hs : P.stoodInHeld t = false) (hg : P.eqGuardType P.depth t = false) (hr : ∀ w, (Op.eqFields 9999 xs.toArray ys.toArray fs).run P w = .ok q w) :
  Pu P C n l (.binOp .eql t x y t') ty (.bool q) := by
 have hf : P.fieldsOf t = fs.toArray := by simp [Program.fieldsOf, ht]
 unfold Pu
 intro a _ _ _ _ W hs' _
 simp only [execOp, hs'.ev hx, hs'.ev hy]
 rw [Sem.run_bind, Sem.run_bind, run_eqGuard_agg (P := P) W _ t x y _ _ hg, Result.andThen_ok, run_eql_struct, run_equalIn_struct W 9999 t _ _ (by rw [hf]; exact ht) hs, hf]; rw [show (fs.toArray).toList = fs from by simp, hr W]
 rfl
theorem pu_neqs {C : World → Prop} {n : Nat} {l : Env} {ty t t' : TypeId} {x y : Operand} {q : Bool} (hx : ev l x = some (.agg xs.toArray)) (hy : ev l y = some (.agg ys.toArray)) (ht : P.underlying t = some (.struct fs.toArray)) (hs : P.stoodInHeld t = false) (hg : P.eqGuardType P.depth t = false) (hr : ∀ w, (Op.eqFields 9999 xs.toArray ys.toArray fs).run P w = .ok q w) :
  Pu P C n l (.binOp .neq t x y t') ty (.bool (!q)) := by
 have hf : P.fieldsOf t = fs.toArray := by simp [Program.fieldsOf, ht]
 unfold Pu
 intro a _ _ _ _ W hs' _
 simp only [execOp, hs'.ev hx, hs'.ev hy]
 rw [Sem.run_bind, Sem.run_bind, run_eqGuard_agg (P := P) W _ t x y _ _ hg, Result.andThen_ok, run_neq_struct, run_equalIn_struct W 9999 t _ _ (by rw [hf]; exact ht) hs, hf]; rw [show (fs.toArray).toList = fs from by simp, hr W]
 rfl
end
theorem setCells_mid {g : Nat} {t : TypeId} : ∀ (vs : List Value) (o : Nat) (w : World) (cur : List Value), Blk w g t cur.toArray → o + vs.length ≤ cur.length → Blk (w.setCells g o vs) g t (cur.take o ++ vs ++ cur.drop (o + vs.length)).toArray
 | [], o, w, cur, h, _ => by
  simpa [World.setCells] using h
 | v :: r, o, w, cur, h, ho => by
  rw [List.length_cons] at ho
  have h0 : Blk (w.setCell ⟨g, o, none⟩ v) g t (cur.set o v).toArray := by simpa using h.set_ o v
  have h1 := setCells_mid r (o + 1) _ (cur.set o v) h0 (by rw [List.length_set]; omega)
  have e : (cur.set o v).take (o + 1) ++ r ++ (cur.set o v).drop (o + 1 + r.length) = cur.take o ++ (v :: r) ++ cur.drop (o + (v :: r).length) := by
   rw [List.take_set, List.take_succ_eq_append_getElem (by omega), List.set_append_right _ _ (by simp; omega), List.drop_set_of_lt (by omega)]
   simp only [List.length_take, List.length_cons]
   rw [Nat.min_eq_left (by omega), Nat.sub_self]
   simp
   congr 1
   omega
  rw [e] at h1
  exact h1
theorem sl_store_mid {P : Program} {ops : Array Oper} {Q : Exit → Act → World → Prop} {n : Nat} {l : Env} {L L' : List Fa} {rest : List Oper} {t t' ty : TypeId} {pos : String} {after : Array Edge} {x y : Operand} {g o : Nat} {cs cl : List Value} (hx : ev l x = some (.pointer (some ⟨g, o, none⟩))) (hp : Pick (blk g t' cs) L L') (hy : ev l y = some (.agg cl.toArray)) (hi : szOf P t = some cl.length) (hc : o + cl.length ≤ cs.length) (h1 : ∀ v ∈ cl, v.oneCell' = true)
  (h : SL P ops Q rest n l (blk g t' (cs.take o ++ cl ++ cs.drop (o + cl.length)) :: L')) : SL P ops Q (⟨none, .store t x y, ty, pos, after, none⟩ :: rest) n l L := sl_of fun w hw => WL.mk fun a hs => by
 have h2 := hw.pick hp
 have hb : Blk w g t' cs.toArray := by
  have := h2.hd
  unfold blk at this
  exact this
 have hB := setCells_mid cl o w cs hb hc
 refine wpList_store_mid rfl t x y rfl g o cl.toArray (hs.ev hx) (hs.ev hy) (fun j hj => ⟨by rw [hb.cell, Array.getElem?_eq_getElem (by simp at hj ⊢; omega)]; rfl, hb.frozen _⟩) (by rw [← szOf_eq]; simpa using hi) (all_oneCell_toArray h1) ?_
 refine (h.to (h2.step (f := blk g t' cs) (setCells_fr _ _ _) (fun k _ e => by unfold blk; exact e) ?_ (fun k e => .inl (by unfold blk at e ⊢; exact e)))).get hs
 unfold blk
 simpa using hB
theorem SetAt.tail {a b : List Value} {i k : Nat} {v : Value} {r : List Value} (hk : a.length = k) (h : SetAt i v b r) : SetAt (k + i) v (a ++ b) (a ++ r) := by
 subst hk
 induction a with
 | nil => simpa using h
 | cons x a ih =>
  rw [List.length_cons, Nat.add_right_comm]; exact SetAt.there ih
def Ent_ (L L' : List Fa) : Prop := ∀ w, Sep w L → Sep w L'
section
variable {L L' L1 K G : List Fa} {f g : Fa} {w : World}
theorem Ent_.sub (h : Sub L L') : Ent_ L L' := fun _ hw => hw.sub h
theorem Ent_.trans (h : Ent_ L L1) (h' : Ent_ L1 L') : Ent_ L L' := fun w hw => h' w (h w hw)
theorem star_out : Ent_ (star G :: K) (G ++ K) := fun w hw => by
 have h1 : Sep w G := by
  have := hw.hd
  unfold star at this
  exact this
 refine h1.app hw.tl (fun k hk hk' => ?_)
 obtain ⟨f, hf, hk'⟩ := hk'
 refine hw.apart f hf k ?_ hk'
 unfold star
 exact hk
theorem star_in : Ent_ (G ++ K) (star G :: K) := fun w hw => by
 have h1 : (star G).P w := by
  unfold star
  exact hw.app_l
 exact (sep_one h1).app hw.app_r (fun k hk hk' => by
   rcases foot_cons.1 hk with e | e
   · unfold star at e
     exact hw.app_apart k e hk'
   · exact foot_nil e)
theorem Ent_.tail {f : Fa} (h : Ent_ L L') (hf : ∀ k, foot L' k → foot L k) : Ent_ (f :: L) (f :: L') := fun w hw =>
 (sep_one hw.hd).app (h w hw.tl) (fun k hk hk' => by
   rcases foot_cons.1 hk with e | e
   · obtain ⟨y, hy, hky⟩ := hf k hk'
     exact hw.apart y hy k e hky
   · exact foot_nil e)
section
variable {P : Program} {ops : Array Oper} {Q : Exit → Act → World → Prop} {n : Nat} {l : Env} {rest : List Oper} {S : World → Prop} {need : Nat → Bool} {fuel : Nat} {listed : Array Bool}
theorem sl_ent (h : Ent_ L L') (hk : SL P ops Q rest n l L') : SL P ops Q rest n l L := sl_of fun w hw => hk.to (h w hw)
theorem sc_ent {c : Code} (h : Ent_ L L') (hk : SC P c Q n l L') : SC P c Q n l L := by
 unfold SC at hk ⊢
 exact fun w hw => hk w (h w hw)
theorem se_ent {e : Exit} (h : Ent_ L L') (hk : SE Q e n l L') : SE Q e n l L := by
 unfold SE at hk ⊢
 exact fun w hw => hk w (h w hw)
theorem fn_ent {f : FuncId} {args : Array Value} {R : Ending → World → Prop} (h : Ent_ L L') (hk : Fn P f args L' R) : Fn P f args L R := by
 unfold Fn at hk ⊢
 exact fun w hw => hk w (h w hw)
theorem sc_bjoin {α : Type} {x y : Code} {id : Nat} (E : α → Env) (H : α → List Fa) (R : α → Prop) (hx : SC P x (Exit.inBlock id (Exit.then (fun a w => ∃ p : α, Sl n (E p) a ∧ R p ∧ Sep w (H p)) Q)) n l L) (hy : ∀ p, R p → SC P y Q n (E p) (H p)) : SC P x (Exit.inBlock id (Exit.then (fun a w => y.wp P Q a w) Q)) n l L := by
 unfold SC WC at hx hy ⊢
 intro w hw a hs
 have hm : ∀ e a w, Exit.then (fun a w => ∃ p : α, Sl n (E p) a ∧ R p ∧ Sep w (H p)) Q e a w → Exit.then (fun a w => y.wp P Q a w) Q e a w := by
  intro e a w h
  cases e
  ·obtain ⟨p, h1, h2, h3⟩ := h
   exact hy p h2 w h3 a h1
  all_goals exact h
 refine Code.wp_mono (fun e a w h => ?_) (hx w hw a hs)
 cases e with
 | exit id' =>
  by_cases hc : id' = id
  ·have h' : Exit.inBlock id (Exit.then (fun a w => ∃ p : α, Sl n (E p) a ∧ R p ∧ Sep w (H p)) Q) (.exit id') a w = Exit.then (fun a w => ∃ p : α, Sl n (E p) a ∧ R p ∧ Sep w (H p)) Q .normal a w := if_pos hc
   have h2 : Exit.inBlock id (Exit.then (fun a w => y.wp P Q a w) Q) (.exit id') a w = Exit.then (fun a w => y.wp P Q a w) Q .normal a w := if_pos hc
   rw [h2]
   rw [h'] at h
   exact hm _ _ _ h
  ·have h' : Exit.inBlock id (Exit.then (fun a w => ∃ p : α, Sl n (E p) a ∧ R p ∧ Sep w (H p)) Q) (.exit id') a w = Exit.then (fun a w => ∃ p : α, Sl n (E p) a ∧ R p ∧ Sep w (H p)) Q (.exit id') a w := if_neg hc
   have h2 : Exit.inBlock id (Exit.then (fun a w => y.wp P Q a w) Q) (.exit id') a w = Exit.then (fun a w => y.wp P Q a w) Q (.exit id') a w := if_neg hc
   rw [h2]
   rw [h'] at h
   exact hm _ _ _ h
 | normal => exact hm .normal a w h
 | goto => exact hm (.goto _) a w h
 | ret => exact hm .ret a w h
 | panic => exact hm (.panic _) a w h
 | outgrown => exact hm .outgrown a w h
theorem Fn.retain {f : FuncId} {args : Array Value} {α : Type} {φ : α → Prop} {v : α → Value} {H H' : α → List Fa} (h : Fn P f args L (Ret φ v H)) (he : ∀ x, φ x → Ent_ (H x) (H' x)) : Fn P f args L (Ret φ v H') :=
 h.mono fun _ w' ⟨x, h1, h2, h3⟩ => ⟨x, h1, h2, he x h1 w' h3⟩
theorem Fn.say {f : FuncId} {args : Array Value} {α β : Type} {φ : α → Prop} {v : α → Value} {H : α → List Fa} {φ' : β → Prop} {v' : β → Value} {H' : β → List Fa} (h : Fn P f args L (Ret φ v H)) (he : ∀ x w, φ x → Sep w (H x) → ∃ y, φ' y ∧ v' y = v x ∧ Sep w (H' y)) : Fn P f args L (Ret φ' v' H') :=
 h.mono fun _ w' ⟨x, h1, h2, h3⟩ => by
  obtain ⟨y, e1, e2, e3⟩ := he x w' h1 h3
  exact ⟨y, e1, by rw [e2, h2], e3⟩
end
end
section
variable {P : Program} {ops : Array Oper} {Q : Exit → Act → World → Prop} {n : Nat} {l : Env} {L L' : List Fa} {rest : List Oper} {ty t e : TypeId} {pos : String} {after : Array Edge} {x y : Operand} {g i c size k : Nat} {xs cl : List Value} {v : Value} {w : World}
theorem own_open (h : w.ownsRow 0 e size (.slice (some ⟨g, 0, none⟩) k c) k xs) : ∃ cur, Blk w g e cur ∧ k ≤ c ∧ c ≤ maxLen ∧ cur.size = c * size ∧ cur.toList.take (k * size) = xs ∧ xs.length = k * size := by
 obtain ⟨hxl, h⟩ := h
 rcases h with ⟨h, _⟩ | ⟨g', cap, cur, hv, hb, hh, hkc, hcm, hcs, htk⟩
 ·cases h
 ·cases hv
  exact ⟨cur, hh, hkc, hcm, hcs, htk, hxl⟩
theorem own_close {cur : Array Value} (hB : Blk w g e cur) (hkc : k ≤ c) (hcm : c ≤ maxLen) (hcs : cur.size = c * size) (htk : cur.toList.take (k * size) = xs) (hxl : xs.length = k * size) : w.ownsRow 0 e size (.slice (some ⟨g, 0, none⟩) k c) k xs :=
 ⟨hxl, .inr ⟨g, c, cur, rfl, Nat.zero_le _, hB, hkc, hcm, hcs, htk⟩⟩
theorem own_mk (h : w.ownsRow 0 e size (.slice (some ⟨g, 0, none⟩) k c) k xs) : (own e size (some ⟨g, 0, none⟩) k c xs).P w := by
 unfold own
 exact h
theorem own_F : (own e size (some ⟨g, 0, none⟩) k c xs).F = fun j => some g = some j := by
 unfold own
 rfl
theorem sep_set (hw : Sep w L) (hp : Pick (own e size (some ⟨g, 0, none⟩) k c xs) L L') (hi : i < k * size) : ∃ cur : Array Value, Blk w g e cur ∧ i < cur.size ∧ ∀ w', Fr (fun j => j = g) w w' → Blk w' g e (cur.setIfInBounds i v) → Sep w' (own e size (some ⟨g, 0, none⟩) k c (xs.set i v) :: L') := by
 have h2 := hw.pick hp
 have hO : w.ownsRow 0 e size (.slice (some ⟨g, 0, none⟩) k c) k xs := by
  have := h2.hd
  unfold own at this
  exact this
 obtain ⟨cur, hB, hkc, hcm, hcs, htk, hxl⟩ := own_open hO
 have hks : k * size ≤ c * size := Nat.mul_le_mul_right _ hkc
 refine ⟨cur, hB, by omega, fun w' hF hB' => h2.step hF (fun j _ e => by rw [own_F]; exact congrArg some e.symm) (own_mk (own_close hB' hkc hcm (by simpa using hcs) ?_ (by simpa using hxl))) (fun j hj => .inl (by rw [own_F] at hj ⊢; exact hj))⟩
 rw [← htk, Array.toList_setIfInBounds, List.take_set]
theorem sl_sto (hx : ev l x = some (.pointer (some ⟨g, i, none⟩))) (hp : Pick (own e size (some ⟨g, 0, none⟩) k c xs) L L') (hy : ev l y = some v) (h1 : v.oneCell' = true) (ht : szOf P t = some 1) (hi : i < k * size)
  (h : SL P ops Q rest n l (own e size (some ⟨g, 0, none⟩) k c (xs.set i v) :: L')) : SL P ops Q (⟨none, .store t x y, ty, pos, after, none⟩ :: rest) n l L := sl_of fun w hw => by
 obtain ⟨cur, hB, hi', hk⟩ := sep_set (v := v) hw hp hi
 exact wl_store hx hy h1 ht hB hi' (fun w' hF _ hB' => h.to (hk w' hF hB'))
theorem sl_sto_mid (hx : ev l x = some (.pointer (some ⟨g, i, none⟩))) (hp : Pick (own e size (some ⟨g, 0, none⟩) k c xs) L L') (hy : ev l y = some (.agg cl.toArray)) (hsz : szOf P t = some cl.length) (hi : i + cl.length ≤ k * size) (h1 : ∀ v ∈ cl, v.oneCell' = true)
  (h : SL P ops Q rest n l (own e size (some ⟨g, 0, none⟩) k c (xs.take i ++ cl ++ xs.drop (i + cl.length)) :: L')) : SL P ops Q (⟨none, .store t x y, ty, pos, after, none⟩ :: rest) n l L := sl_of fun w hw => WL.mk fun a hs => by
 have h2 := hw.pick hp
 have hO : w.ownsRow 0 e size (.slice (some ⟨g, 0, none⟩) k c) k xs := by
  have := h2.hd
  unfold own at this
  exact this
 obtain ⟨cur, hB, hkc, hcm, hcs, htk, hxl⟩ := own_open hO
 have hks : k * size ≤ c * size := Nat.mul_le_mul_right _ hkc
 have hcl : cur.toList.length = c * size := by simpa using hcs
 have hB2 := setCells_mid cl i w cur.toList (by simpa using hB) (by omega)
 refine wpList_store_mid rfl t x y rfl g i cl.toArray (hs.ev hx) (hs.ev hy) (fun j hj => ⟨by rw [hB.cell, Array.getElem?_eq_getElem (by simp at hj ⊢; omega)]; rfl, hB.frozen _⟩) (by rw [← szOf_eq]; simpa using hsz) (all_oneCell_toArray h1) ?_
 refine (h.to (h2.step (setCells_fr _ _ _) (fun j _ e => by rw [own_F]; exact congrArg some e.symm) (own_mk (own_close (cur := (cur.toList.take i ++ cl ++ cur.toList.drop (i + cl.length)).toArray) (by simpa using hB2) hkc hcm (by simp; omega) ?_ (by simp; omega))) (fun j hj => .inl (by rw [own_F] at hj ⊢; exact hj)))).get hs
 have e1 : cur.toList.take i = xs.take i := by rw [← htk, List.take_take, Nat.min_eq_left (by omega)]
 have e2 : xs.drop (i + cl.length) = (cur.toList.drop (i + cl.length)).take (k * size - (i + cl.length)) := by rw [← htk, List.drop_take]
 rw [List.toList_toArray, e2, ← e1, List.take_append, List.take_of_length_le (by simp; omega)]
 congr 1
 simp
 congr 1
 omega
end
section
variable {X : Type} {C : X → List Value} {sz : Nat}
theorem rows_set (hC : ∀ s, (C s).length = sz) : ∀ {ss : List X} {j i : Nat} {s s' : X} {v : Value}, ss[j]? = some s → (C s).set i v = C s' → i < sz → (rows C ss).set (j * sz + i) v = rows C (ss.set j s')
 | [], j, i, s, s', v, h, _, _ => by simp at h
 | a :: r, 0, i, s, s', v, h, he, hi => by
  simp at h
  subst h; rw [rows_cons, List.set_cons_zero, rows_cons, Nat.zero_mul, Nat.zero_add, List.set_append_left _ _ (by rw [hC]; exact hi), he]
 | a :: r, j + 1, i, s, s', v, h, he, hi => by
  rw [rows_cons, List.set_cons_succ, rows_cons, ← rows_set hC (ss := r) (by simpa using h) he hi, List.set_append_right _ _ (by rw [hC, Nat.succ_mul]; omega), hC]
  congr 2
  rw [Nat.succ_mul]; omega
theorem rows_put (hC : ∀ s, (C s).length = sz) : ∀ {ss : List X} {j : Nat} (s' : X), j < ss.length → (rows C ss).take (j * sz) ++ C s' ++ (rows C ss).drop (j * sz + (C s').length) = rows C (ss.set j s')
 | ss, j, s', h => by
  rw [hC, show j * sz + sz = (j + 1) * sz from by rw [Nat.succ_mul], rows_take hC, rows_drop hC, ← rows_one (C := C) s', ← rows_app, ← rows_app, List.set_eq_take_append_cons_drop, if_pos h]
  simp
end
section
variable {P : Program} {ops : Array Oper} {Q : Exit → Act → World → Prop} {n : Nat} {l : Env} {L L' : List Fa} {rest : List Oper} {d : Tmp} {dst : Option Tmp} {ty t t' t0 e : TypeId} {pos : String} {after : Array Edge} {x y : Operand} {g o dLen dCap sLen sCap size kk : Nat} {a : Addr} {cs cs0 : List Value}
theorem sep_copy_blk {w : World} (hw : Sep w L) (hp : Pick (blk g t0 cs0) L L') (hsz : szOf P e = some size) (ht : P.underlying t = some (.slice e)) (hk : min sLen dLen = kk) (hn : cs.length = kk * size) (hr : ∀ w, Sep w L → ∀ j v, cs[j]? = some v → w.cell? (a.add j) = some v) (hfit : o + cs.length ≤ cs0.length) (h1 : ∀ v ∈ cs, v.oneCell' = true) :
  ∃ w', (Builtin.copy_ #[t, t'] ty #[.slice (some ⟨g, o, none⟩) dLen dCap, .slice (some a) sLen sCap]).run P w = .ok (goInt kk) w' ∧ Sep w' (blk g t0 (cs0.take o ++ cs ++ cs0.drop (o + cs.length)) :: L') := by
 subst hk
 have h2 := hw.pick hp
 have hB : Blk w g t0 cs0.toArray := by
  have := h2.hd
  unfold blk at this
  exact this
 refine ⟨_, run_copy_rows w t t' ty e g o dLen dCap a sLen sCap size cs0.toArray t0 cs ht hsz hB hn (hr w hw) (by simpa using hfit) h1, ?_⟩
 refine h2.step (setRow_fr w g _) (fun j _ e => by unfold blk; exact e) ?_ (fun j hj => .inl (by unfold blk at hj ⊢; exact hj))
 have hP := setRow_heap w g cs0.toArray (cs0.take o ++ cs ++ cs0.drop (o + cs.length)).toArray t0 (0, 0) hB
 unfold blk
 exact hP
theorem sl_copy_blk (hx : ev l x = some (.slice (some ⟨g, o, none⟩) dLen dCap)) (hp : Pick (blk g t0 cs0) L L') (hy : ev l y = some (.slice (some a) sLen sCap)) (hsz : szOf P e = some size) (ht : P.underlying t = some (.slice e)) (hk : min sLen dLen = kk) (hn : cs.length = kk * size)
  (hr : ∀ w, Sep w L → ∀ j v, cs[j]? = some v → w.cell? (a.add j) = some v) (hfit : o + cs.length ≤ cs0.length) (h1 : ∀ v ∈ cs, v.oneCell' = true) (hd : (match dst with | some d => Nat.blt d n | none => true) = true)
  (h : SL P ops Q rest n (match dst with | some d => (d, goInt kk) :: l | none => l) (blk g t0 (cs0.take o ++ cs ++ cs0.drop (o + cs.length)) :: L')) :
  SL P ops Q (⟨dst, .call { callee := .builtin .copy, args := #[x, y], argTypes := #[t, t'] }, ty, pos, after, none⟩ :: rest) n l L := sl_of fun w hw => WL.mk fun a' hs => by
 obtain ⟨w', hr', hw'⟩ := sep_copy_blk (P := P) (ty := ty) (t' := t') (dCap := dCap) (sCap := sCap) hw hp hsz ht hk hn hr hfit h1
 refine wpList_plain rfl fun K hK => ?_
 unfold Oper.wp
 simp only [execOp, resolve, List.map_toArray, List.map_cons, List.map_nil, hs.ev hx, hs.ev hy]
 simp only [invoke, builtin, Sem.run_bind, Sem.run_pure, Result.andThen_ok, hr']
 cases dst with
 | none => exact hK _ _ ((h.to hw').get hs)
 | some d => exact hK _ _ ((h.to hw').get (hs.put hd _))
theorem sd_copy_blk {S : World → Prop} {need : Nat → Bool} {fuel : Nat} {listed : Array Bool} (j : Nat) (hrd : Region.ready .any ops listed = [j]) (ho : ops[j]? = some ⟨some d, .call { callee := .builtin .copy, args := #[x, y], argTypes := #[t, t'] }, ty, pos, after, none⟩)
  (hx : ev l x = some (.slice (some ⟨g, o, none⟩) dLen dCap)) (hp : Pick (blk g t0 cs0) L L') (hy : ev l y = some (.slice (some a) sLen sCap)) (hsz : szOf P e = some size) (ht : P.underlying t = some (.slice e)) (hk : min sLen dLen = kk) (hn : cs.length = kk * size)
  (hr : ∀ w, Sep w L → ∀ j v, cs[j]? = some v → w.cell? (a.add j) = some v) (hfit : o + cs.length ≤ cs0.length) (h1 : ∀ v ∈ cs, v.oneCell' = true) (hd : Nat.blt d n = true) (hS : ∀ w, Sep w (blk g t0 (cs0.take o ++ cs ++ cs0.drop (o + cs.length)) :: L') → S w)
  (h : SD P ops Q S need fuel (listed.setIfInBounds j true) n ((d, goInt kk) :: l) (blk g t0 (cs0.take o ++ cs ++ cs0.drop (o + cs.length)) :: L')) : SD P ops Q S need (fuel + 1) listed n l L := sd_of fun w hw => by
 obtain ⟨w', hr', hw'⟩ := sep_copy_blk (P := P) (ty := ty) (t' := t') (dCap := dCap) (sCap := sCap) hw hp hsz ht hk hn hr hfit h1
 refine wd_run j hrd ho (v := goInt kk) (w' := w') ?_ hd (fun _ => hS w' hw') (h.to hw')
 unfold Ru
 intro a' _ _ _ _ hs
 simp only [execOp, resolve, List.map_toArray, List.map_cons, List.map_nil, hs.ev hx, hs.ev hy]
 simp only [invoke, builtin, Sem.run_bind, Sem.run_pure, Result.andThen_ok, hr']
theorem sd_die (i : Nat) {S : World → Prop} {need : Nat → Bool} {fuel : Nat} {listed : Array Bool} {f : FuncId} {cap : List Value} {zs : List Operand} {vs : List Value} {ats : Array TypeId} {L1 : List Fa} {α : Type} {φ : α → Prop} {cc : α → List PanicEntry} {H : α → List Fa} (hr : Region.ready .any ops listed = [i]) (ho : ops[i]? = some ⟨some d, .call { callee := .value x, args := zs.toArray, argTypes := ats }, ty, pos, after, none⟩)
  (hx : ev l x = some (.func (.func f) #[] cap.toArray)) (hv : evs l zs = some vs) (hf : callable P f = true) (hd : Nat.blt d n = true) (hs : Sub L L1) (hc : Fn P f (vs ++ cap).toArray L1 (Pan φ cc H))
  (h : ∀ a, φ a → SE Q (.panic (cc a)) n l (H a)) : SD P ops Q S need (fuel + 1) listed n l L := sd_of fun w hw => by
 unfold Fn at hc
 unfold SE at h
 exact wd_die i hr ho hx hv hf (hc w (hw.sub hs)) (fun e w' ⟨a, h1, h2, h3⟩ => ⟨_, h2, h a h1 w' h3⟩)
end
section
variable {P : Program} {ops : Array Oper} {Q : Exit → Act → World → Prop} {n : Nat} {l : Env} {L : List Fa} {S : World → Prop} {need : Nat → Bool} {fuel : Nat} {listed : Array Bool} {e t' : TypeId} {size m c g : Nat} {A : Option Addr} {xs : List Value}
theorem sd_know (h : ∀ w, Sep w L → φ) (hk : φ → SD P ops Q S need fuel listed n l L) : SD P ops Q S need fuel listed n l L := sd_of fun w hw => (hk (h w hw)).to hw
theorem own_form_at (hp : At (own e size A m c xs) L) (hm : 0 < m) : ∀ w, Sep w L → ∃ g, A = some ⟨g, 0, none⟩ := fun w hw => by
 obtain ⟨g, cap, hv, _, _⟩ := World.ownsRow.form (own_at hw hp) hm
 exact ⟨g, by injection hv⟩
theorem results_cell1 {fn : Func} {p : Tmp} {ty : TypeId} (h : fn.results = #[.cell p ty]) (tmps : Array Value) (P : Program) (w : World) :
  (results fn tmps).run P w = ((asAddr (tmps.getD p undef)).run P w).andThen fun a w₁ => (loadVar ty a).run P w₁ := by
 simp only [results, h]
 simp [Sem.run_bind, Result.andThen]
theorem se_ret_c {fn : Func} {α : Type} {φ : α → Prop} {vv : α → Value} {H : α → List Fa} {tp : Nat} {ty : TypeId} {td : TypeDesc} {csx : List Value} (x : α) (hφ : φ x) (hr : fn.results = #[.cell tp ty]) (hv : lk l tp = some (.pointer (some ⟨g, 0, none⟩))) (hb : At (blk g t' csx) L) (hu : P.underlying ty = some td) (hd' : (match td with | .struct _ | .array _ _ => true | _ => false) = true) (hi : szOf P ty = some csx.length)
  (he : vv x = .agg csx.toArray) (hs : Sub L (H x)) : SE (bodyPost P fn (Ret φ vv H)) .ret n l L := se_of fun w hw => WE.mk fun a hs' => by
 refine bodyPost_ret (v := vv x) ?_ hs'.df ⟨x, hφ, rfl, hw.sub hs⟩
 rw [results_cell1 hr, hs'.get hv, he]
 have hB : Blk w g t' csx.toArray := blk_at hw hb
 have hl := run_loadVar_at (P := P) w ⟨g, 0, none⟩ ty csx td (fun j v hj => by
   rw [add_none, Nat.zero_add, hB.cell]
   simpa using hj) hu hd' (by rw [← szOf_eq]; exact hi)
 simp [asAddr, hl]
end
section
variable {P : Program} {ops : Array Oper} {Q : Exit → Act → World → Prop} {n : Nat} {l : Env} {L L' : List Fa} {rest : List Oper} {ty t e : TypeId} {pos : String} {after : Array Edge} {x y : Operand} {g i c size k : Nat} {xs cl : List Value} {v : Value} {w : World} {p : Addr}
theorem sl_sto2 (hx : ev l x = some (.pointer (some p))) (hpe : p = ⟨g, i, none⟩) (hp : Pick (own e size (some ⟨g, 0, none⟩) k c xs) L L') (hy : ev l y = some v) (h1 : v.oneCell' = true) (ht : szOf P t = some 1) (hi : i < k * size)
  (h : SL P ops Q rest n l (own e size (some ⟨g, 0, none⟩) k c (xs.set i v) :: L')) : SL P ops Q (⟨none, .store t x y, ty, pos, after, none⟩ :: rest) n l L := sl_sto (hpe ▸ hx) hp hy h1 ht hi h
end
theorem at2 (g a b : Nat) : ((⟨g, 0, none⟩ : Addr).add a).add b = ⟨g, a + b, none⟩ := by rw [add_none, add_none, Nat.zero_add]
theorem at1 (g a : Nat) : (⟨g, 0, none⟩ : Addr).add a = ⟨g, a, none⟩ := by rw [add_none, Nat.zero_add]
structure Id where
 l : List Int
 len : l.length = 16
 ok : IsBytes l
theorem Id.ext_ {a b : Id} (h : a.l = b.l) : a = b := by
 cases a
 cases b
 simp at h
 subst h
 rfl
abbrev Id.v (a : Id) : Value := .agg (bytes a.l).toArray
theorem bytes_length (xs : List Int) : (bytes xs).length = xs.length := by simp [bytes]
theorem Vw.of_blk {g : Nat} {t : TypeId} {cs : List Value} {n : Nat} {L : List Fa} (h : At (blk g t cs) L) (hn : cs.length = n) : Vw L (fun w => Reads w 1 (some ⟨g, 0, none⟩) n cs) := fun w hw => by
 have h1 : Blk w g t cs.toArray := by
  have := hw.at h
  unfold blk at this
  exact this
 have := Reads.of_blk (n := n) (size := 1) h1 (by simpa using hn)
 simpa using this
structure Seen where
 id : Id
 t : Int
 c : Int
 tb : 0 ≤ t ∧ t ≤ 18446744073709551615
 cb : -9223372036854775808 ≤ c ∧ c ≤ 9223372036854775807
def Seen.cells (s : Seen) : List Value := bytes s.id.l ++ [.int .u64 s.t, .int .i64 s.c]
abbrev Seen.v (s : Seen) : Value := .agg s.cells.toArray
theorem Seen.len (s : Seen) : s.cells.length = 18 := by simp [Seen.cells, bytes, s.id.len]
theorem Seen.one (s : Seen) : ∀ v ∈ s.cells, v.oneCell' = true := by
 intro v hv
 rcases List.mem_append.1 hv with h | h
 ·exact one_bytes _ v h
 ·simp at h
  rcases h with h | h <;> subst h <;> rfl
theorem Seen.nt (s : Seen) : nth s.cells 16 = some (.int .u64 s.t) := by
 rw [nth_eq, Seen.cells, List.getElem?_append_right (by simp [bytes, s.id.len])]
 simp [bytes, s.id.len]
theorem Seen.nc (s : Seen) : nth s.cells 17 = some (.int .i64 s.c) := by
 rw [nth_eq, Seen.cells, List.getElem?_append_right (by simp [bytes, s.id.len])]
 simp [bytes, s.id.len]
theorem Seen.mid (s : Seen) : Mid s.cells 0 (bytes s.id.l) := Mid.head
theorem Seen.ext_ {a b : Seen} (h : a.id.l = b.id.l) (h1 : a.t = b.t) (h2 : a.c = b.c) : a = b := by
 obtain ⟨a0, a1, a2, _, _⟩ := a
 obtain ⟨b0, b1, b2, _, _⟩ := b
 have := Id.ext_ h
 simp at this h1 h2
 subst this h1 h2
 rfl
theorem Vw.of_blk_mid {g o : Nat} {t : TypeId} {cs : List Value} {bs : List Int} {L : List Fa} (h : At (blk g t cs) L) (hm : Mid cs o (bytes bs)) : Vw L (fun w => Reads w 1 (some ⟨g, o, none⟩) bs.length (bytes bs)) := fun w hw => by
 have h1 := blk_at hw h
 refine ⟨by rw [bytes_length, Nat.mul_one], fun _ => ⟨_, rfl, fun j u hu => ?_⟩⟩
 rw [add_none, h1.cell]
 simpa using hm j u hu
theorem SE.to {Q : Exit → Act → World → Prop} {e : Exit} {n : Nat} {l : Env} {L : List Fa} {w : World} (hw : Sep w L) (h : SE Q e n l L) : WE Q e n l w := by
 unfold SE at h
 exact h w hw
theorem nth_mid {pre m post : List Value} {k i : Nat} {v : Value} (hk : pre.length = k) (h : nth m i = some v) : nth (pre ++ m ++ post) (k + i) = some v := by
 rw [nth_eq] at h ⊢
 exact Mid.of_append hk i v h
section
variable {P : Program} {ops : Array Oper} {Q : Exit → Act → World → Prop} {md : Region.Mode} {S : World → Prop} {need : Nat → Bool}
def wpAnyE (P : Program) (md : Region.Mode) (ops : Array Oper) (Q : Exit → Act → World → Prop) (S : World → Prop) (need : Nat → Bool) : Nat → Array Bool → Act → World → Prop
 | 0, listed, a, w => Region.ready md ops listed = [] ∧ Q .normal a w
 | fuel + 1, listed, a, w =>
  (Region.ready md ops listed = [] → Q .normal a w) ∧
  ∀ i ∈ Region.ready md ops listed, wpOp P ops Q i (fun a' w' => (need i = true → S w → S w') ∧ wpAnyE P md ops Q S need fuel (listed.setIfInBounds i true) a' w') a w
theorem wpAny_of_E : ∀ (fuel : Nat) (listed : Array Bool) (a : Act) (w : World), wpAnyE P md ops Q S need fuel listed a w → wpAny P md ops Q fuel listed a w
 | 0, _, _, _, h => h
 | fuel + 1, _, _, _, h => ⟨h.1, fun i hi => wpOp_mono (fun a' w' h' => wpAny_of_E fuel _ a' w' h'.2) (h.2 i hi)⟩
theorem E_of_any : ∀ (fuel : Nat) (listed : Array Bool) (a : Act) (w : World), (∀ j o, ops[j]? = some o → need j = true → listed.getD j true = true) → wpAny P md ops Q fuel listed a w → wpAnyE P md ops Q S need fuel listed a w
 | 0, _, _, _, _, h => h
 | fuel + 1, listed, a, w, hn, h => by
  refine ⟨h.1, fun i hi => ?_⟩
  obtain ⟨hun, oi, hoi, _⟩ := mem_ready.1 hi
  have hni : ¬ need i = true := fun e => by
   rw [hn i oi hoi e] at hun
   cases hun
  refine wpOp_mono (fun a' w' h' => ⟨fun e => absurd e hni, E_of_any fuel _ a' w' (fun j oj hj e => ?_) h'⟩) (h.2 i hi)
  by_cases hij : i = j
  ·subst hij; exact absurd e hni
  ·rw [getD_set_ne true hij]; exact hn j oj hj e
end
section
variable {P : Program} {ops : Array Oper} {Q : Exit → Act → World → Prop} {n : Nat} {l : Env} {L L' : List Fa} {S : World → Prop} {need : Nat → Bool} {fuel : Nat} {listed : Array Bool} {d : Tmp} {op : Op} {ty : TypeId} {pos : String} {after : Array Edge} {v : Value}
def SX (P : Program) (ops : Array Oper) (Q : Exit → Act → World → Prop) (S : World → Prop) (need : Nat → Bool) (fuel : Nat) (listed : Array Bool) (n : Nat) (l : Env) (L : List Fa) : Prop := ∀ w, Sep w L → ∀ a, Sl n l a → wpAnyE P .any ops Q S need fuel listed a w
def freeOk (ops : Array Oper) (listed : Array Bool) (i : Nat) : Bool := Region.noSelect ops && Region.free .any ops listed i && (Region.ready .any ops listed).contains i
theorem freeOk_spec {i : Nat} (h : freeOk ops listed i = true) : Region.noSelect ops = true ∧ Region.free .any ops listed i = true ∧ (Region.ready .any ops listed).contains i = true := by
 unfold freeOk at h
 simp only [Bool.and_eq_true] at h
 exact ⟨h.1.1, h.1.2, h.2⟩
theorem sx_rest (hn : ((List.range ops.size).all fun j => !need j || listed.getD j true) = true) (h : SD P ops Q (fun _ => True) (fun _ => true) fuel listed n l L) : SX P ops Q S need fuel listed n l L := fun w hw a hs => by
 refine E_of_any _ _ _ _ (fun j oj hoj hj => ?_) ?_
 ·have h1 := List.all_eq_true.1 hn j (List.mem_range.2 (Array.getElem?_eq_some_iff.1 hoj).1)
  simpa [hj] using h1
 ·unfold SD WD at h
  exact wpAny_of_D _ _ _ _ (h w hw a hs)
theorem PuI.free {C : World → Prop} (h : PuI P [] l op v) : Pu P C n l op ty v := h.pu fun _ _ _ hf => by cases hf
attribute [irreducible] SX
end
end
end Go.Proofs.YtocaabnbmcpjmaaGreat
