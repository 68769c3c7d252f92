/- Several texts of one claim, one behind the other (St, Es, Sp4, Ids, Sp5, Reg2, Reg3, Sp6). -/
import Derived.Test.YtocaabnbmcpjmaaGreatDoorB04
import Derived.Test.YtocaabnbmcpjmaaGreatDoorB03
import Derived.Laws.StructEq
set_option linter.unusedVariables false
set_option linter.unusedSimpArgs false
/- The steps of the walk as relations, so that one short text finds each. No program is in sight. -/
namespace Go.Proofs.YtocaabnbmcpjmaaGreatDoor
open Go.RowKit Go.MapKept

/-- Decided, or not. -/
inductive Dc : Prop → Bool → Prop
  | t {φ : Prop} (h : φ) : Dc φ true
  | f {φ : Prop} (h : ¬ φ) : Dc φ false
  | u {φ : Prop} [Decidable φ] : Dc φ (decide φ)
theorem Dc.eq {φ : Prop} [Decidable φ] {b : Bool} (h : Dc φ b) : decide φ = b := by
  cases h with
  | t h => simp [h]
  | f h => simp [h]
  | u => congr
/-- One of two. -/
inductive Pk {α : Type} : Bool → Option α → Option α → α → Prop
  | t {v : α} {o : Option α} : Pk true (some v) o v
  | f {v : α} {o : Option α} : Pk false o (some v) v
/-- A number within its kind. -/
inductive Wr : IntKind → Int → Int → Prop
  | i {r : Int} (h : -9223372036854775808 ≤ r ∧ r ≤ 9223372036854775807) : Wr .i64 r r
  | v {r : Int} (h : 0 ≤ r ∧ r ≤ 18446744073709551615) : Wr .u64 r r
  | b {r : Int} (h : 0 ≤ r ∧ r ≤ 255) : Wr .u8 r r
  | q {r : Int} (h : 0 ≤ r ∧ r ≤ 4294967295) : Wr .u32 r r
  | w {k : IntKind} {r : Int} : Wr k r (k.wrap r)
theorem Wr.eq {k : IntKind} {r s : Int} (h : Wr k r s) : k.wrap r = s := by
  cases h with
  | i h => exact IntWalk.i64_in _ h
  | v h => rw [IntKind.wrap_u64, Int.emod_eq_of_lt h.1 (by omega)]
  | b h => rw [IntKind.wrap_u8, Int.emod_eq_of_lt h.1 (by omega)]
  | q h =>
    simp [IntKind.wrap, IntKind.bits, IntKind.signed]
    omega
  | w => rfl
/-- What the kernel is asked. -/
structure KR (φ : Prop) : Prop where
  h : φ
inductive EqV (P : Program) (t : TypeId) : Value → Value → Bool → Prop
  | i {k : IntKind} {p q : Int} {b : Bool} (h : Dc (p = q) b) : EqV P t (.int k p) (.int k q) b
  | o {b c : Bool} (h : P.underlying t = some .bool) : EqV P t (.bool b) (.bool c) (b == c)
  | s {s : ByteArray} : EqV P t (.string s) (.string s) true
  | n {s u : ByteArray} : EqV P t (.string s) (.string u) (s.toList == u.toList)
  | p {e : TypeId} {a : Addr} (h : P.underlying t = some (.pointer e)) : EqV P t (.pointer (some a)) (.pointer none) false
  | q {e : TypeId} (h : P.underlying t = some (.pointer e)) : EqV P t (.pointer none) (.pointer none) true
  | c {e : TypeId} {a : Addr} {m c : Nat} (h : P.underlying t = some (.slice e)) : EqV P t (.slice (some a) m c) (.slice none 0 0) false
  | d {e : TypeId} {m c : Nat} (h : P.underlying t = some (.slice e)) : EqV P t (.slice none m c) (.slice none 0 0) true
/-- What two numbers make. -/
inductive ArV : BinOp → Value → Value → Value → Prop
  | add {k : IntKind} {p q r : Int} (h : Wr k (p + q) r) : ArV .add (.int k p) (.int k q) (.int k r)
  | sub {k : IntKind} {p q r : Int} (h : Wr k (p - q) r) : ArV .sub (.int k p) (.int k q) (.int k r)
  | mul {k : IntKind} {p q r : Int} (h : Wr k (p * q) r) : ArV .mul (.int k p) (.int k q) (.int k r)
  | quo {k : IntKind} {p q r : Int} (h0 : 0 ≤ p) (h1 : 0 < q) (h : Wr k (p / q) r) : ArV .quo (.int k p) (.int k q) (.int k r)
  | rem {k : IntKind} {p q : Int} (h0 : 0 ≤ p) (h1 : 0 < q) : ArV .rem (.int k p) (.int k q) (.int k (p % q))
  | and {k : IntKind} {p q : Int} : ArV .and (.int k p) (.int k q) (.int k (bits .and k p q))
  | or {k : IntKind} {p q : Int} : ArV .or (.int k p) (.int k q) (.int k (bits .or k p q))
  | xor {k : IntKind} {p q : Int} : ArV .xor (.int k p) (.int k q) (.int k (bits .xor k p q))
  | lss {k : IntKind} {p q : Int} {b : Bool} (h : Dc (p < q) b) : ArV .lss (.int k p) (.int k q) (.bool b)
  | leq {k : IntKind} {p q : Int} {b : Bool} (h : Dc (p ≤ q) b) : ArV .leq (.int k p) (.int k q) (.bool b)
  | gtr {k : IntKind} {p q : Int} {b : Bool} (h : Dc (q < p) b) : ArV .gtr (.int k p) (.int k q) (.bool b)
  | geq {k : IntKind} {p q : Int} {b : Bool} (h : Dc (q ≤ p) b) : ArV .geq (.int k p) (.int k q) (.bool b)
inductive ShV : Value → Value → Value → Prop
  | o {k k' : IntKind} {p : Int} (h : 1 ≤ (k.bits : Int)) : ShV (.int k p) (.int k' 1) (.int k (p / 2))
  | f {k k' : IntKind} {p : Int} (h : 4 ≤ (k.bits : Int)) : ShV (.int k p) (.int k' 4) (.int k (p / 16))
  | n {k k' : IntKind} {p q : Int} (h : 0 ≤ q) (h' : q ≤ (k.bits : Int)) : ShV (.int k p) (.int k' q) (.int k (p / 2 ^ q.toNat))
inductive LdV (P : Program) (L : List Fa) (t : TypeId) : Addr → Value → Prop
  | b {g i : Nat} {t' : TypeId} {cs : List Value} {v : Value} (h : At (blk g t' cs) L) (ht : plainT P t = true) (hn : nth cs i = some v) : LdV P L t ⟨g, i, none⟩ v
  | w {g : Nat} {t' : TypeId} {td : TypeDesc} {cs : List Value} (h : At (blk g t' cs) L) (hu : P.underlying t = some td) (hd : (match td with | .struct _ | .array _ _ => true | _ => false) = true) (hs : szOf P t = some cs.length) : LdV P L t ⟨g, 0, none⟩ (.agg cs.toArray)
  | s {g i : Nat} {t' : TypeId} {td : TypeDesc} {cs cl : List Value} (h : At (blk g t' cs) L) (hm : Mid cs i cl) (hu : P.underlying t = some td) (hd : (match td with | .struct _ | .array _ _ => true | _ => false) = true) (hs : szOf P t = some cl.length) : LdV P L t ⟨g, i, none⟩ (.agg cl.toArray)
  | o {e : TypeId} {size n c i : Nat} {a : Addr} {xs : List Value} {v : Value} (h : At (own e size (some a) n c xs) L) (hm : 0 < n) (ht : plainT P t = true) (hn : nth xs i = some v) : LdV P L t (a.add i) v
  | m {e : TypeId} {size n c i : Nat} {a : Addr} {td : TypeDesc} {xs cl : List Value} (h : At (own e size (some a) n c xs) L) (hm : 0 < n) (hd0 : Mid xs i cl) (hu : P.underlying t = some td) (hd : (match td with | .struct _ | .array _ _ => true | _ => false) = true) (hs : szOf P t = some cl.length) : LdV P L t (a.add i) (.agg cl.toArray)
def evo (l : Env) : Option Operand → Option (Option Value)
  | none => some none
  | some x => match ev l x with
    | some v => some (some v)
    | none => none
inductive SlV (P : Program) (t : TypeId) : Value → Option Value → Option Value → Value → Prop
  | a {e : TypeId} {sz m c : Nat} {A : Option Addr} (ht : P.underlying t = some (.slice e)) (hs : szOf P e = some sz) (h : m ≤ c) : SlV P t (.slice A m c) none none (.slice A m c)
  | r {e : TypeId} {sz n : Nat} {a : Addr} (ht : P.underlying t = some (.array n e)) (hs : szOf P e = some sz) : SlV P t (.pointer (some a)) none none (.slice (some a) n n)
  | h {e : TypeId} {sz m c j : Nat} {A : Option Addr} {k : IntKind} {p : Int} (ht : P.underlying t = some (.slice e)) (hs : szOf P e = some sz) (hp : p = (j : Int)) (h : j ≤ c) : SlV P t (.slice A m c) none (some (.int k p)) (.slice A j c)
  | l {e : TypeId} {sz m c j : Nat} {A : Option Addr} {k : IntKind} {p : Int} (ht : P.underlying t = some (.slice e)) (hs : szOf P e = some sz) (hp : p = (j : Int)) (h : j ≤ m) (h2 : m ≤ c) : SlV P t (.slice A m c) (some (.int k p)) none (.slice (cutA A c j sz) (m - j) (c - j))
  | g {e : TypeId} {sz m c i j : Nat} {A : Option Addr} {k k' : IntKind} {p q : Int} (ht : P.underlying t = some (.slice e)) (hs : szOf P e = some sz) (hp : p = (i : Int)) (hq : q = (j : Int)) (h : i ≤ j) (h2 : j ≤ c) : SlV P t (.slice A m c) (some (.int k p)) (some (.int k' q)) (.slice (cutA A c i sz) (j - i) (c - i))
inductive IxV (P : Program) (t : TypeId) : Value → Value → Value → Prop
  | n {e : TypeId} {sz m c j : Nat} {a : Addr} {k : IntKind} (ht : P.underlying t = some (.slice e)) (hs : szOf P e = some sz) (h : j < m) : IxV P t (.slice (some a) m c) (.int k (j : Int)) (.pointer (some (a.add (j * sz))))
  | a {e : TypeId} {sz N j g o : Nat} {k : IntKind} (ht : P.underlying t = some (.array N e)) (hs : szOf P e = some sz) (h : j < N) : IxV P t (.pointer (some ⟨g, o, none⟩)) (.int k (j : Int)) (.pointer (some ⟨g, o + j * sz, none⟩))
  | p {e : TypeId} {sz m c : Nat} {a : Addr} {k : IntKind} {p : Int} (ht : P.underlying t = some (.slice e)) (hs : szOf P e = some sz) (h : 0 ≤ p) (h2 : p < m) : IxV P t (.slice (some a) m c) (.int k p) (.pointer (some (a.add (p.toNat * sz))))
  | y {e : TypeId} {sz N g o : Nat} {k : IntKind} {p : Int} (ht : P.underlying t = some (.array N e)) (hs : szOf P e = some sz) (h : 0 ≤ p) (h2 : p < N) : IxV P t (.pointer (some ⟨g, o, none⟩)) (.int k p) (.pointer (some ⟨g, o + p.toNat * sz, none⟩))
/-- What a map holds at a key. -/
inductive LkV (P : Program) (L : List Fa) (t : TypeId) : Nat → Value → Bool → Value → Prop
  | t {g ck : Nat} {d : TypeDesc} {kt e : TypeId} {es : List MapEntry} {k v : Value} (h : At (mp g d es ck) L) (ht : P.underlying t = some (.map kt e)) (hd : P.underlying kt = some d) (hk : IsKey d k) (hg : MGet es k v) : LkV P L t g k true (.tuple #[v, .bool true])
  | f {g ck : Nat} {d : TypeDesc} {kt e : TypeId} {es : List MapEntry} {k z : Value} (h : At (mp g d es ck) L) (ht : P.underlying t = some (.map kt e)) (hd : P.underlying kt = some d) (hk : IsKey d k) (hg : MNo es k) (hz : zeroOf P e = some z) : LkV P L t g k true (.tuple #[z, .bool false])
  | t1 {g ck : Nat} {d : TypeDesc} {kt e : TypeId} {es : List MapEntry} {k v : Value} (h : At (mp g d es ck) L) (ht : P.underlying t = some (.map kt e)) (hd : P.underlying kt = some d) (hk : IsKey d k) (hg : MGet es k v) : LkV P L t g k false v
  | f1 {g ck : Nat} {d : TypeDesc} {kt e : TypeId} {es : List MapEntry} {k z : Value} (h : At (mp g d es ck) L) (ht : P.underlying t = some (.map kt e)) (hd : P.underlying kt = some d) (hk : IsKey d k) (hg : MNo es k) (hz : zeroOf P e = some z) : LkV P L t g k false z
  | tk {g ck : Nat} {d : TypeDesc} {kt e : TypeId} {es : List MapEntry} {k v : Value} (h : At (mp g d es ck) L) (ht : P.underlying t = some (.map kt e)) (hk : KLaw P kt d k) (hg : MGet es k v) : LkV P L t g k true (.tuple #[v, .bool true])
  | fk {g ck : Nat} {d : TypeDesc} {kt e : TypeId} {es : List MapEntry} {k z : Value} (h : At (mp g d es ck) L) (ht : P.underlying t = some (.map kt e)) (hk : KLaw P kt d k) (hg : MNo es k) (hz : zeroOf P e = some z) : LkV P L t g k true (.tuple #[z, .bool false])
  | tk1 {g ck : Nat} {d : TypeDesc} {kt e : TypeId} {es : List MapEntry} {k v : Value} (h : At (mp g d es ck) L) (ht : P.underlying t = some (.map kt e)) (hk : KLaw P kt d k) (hg : MGet es k v) : LkV P L t g k false v
  | fk1 {g ck : Nat} {d : TypeDesc} {kt e : TypeId} {es : List MapEntry} {k z : Value} (h : At (mp g d es ck) L) (ht : P.underlying t = some (.map kt e)) (hk : KLaw P kt d k) (hg : MNo es k) (hz : zeroOf P e = some z) : LkV P L t g k false z
/-- A value out of an array, a byte out of a string. -/
inductive IvV (P : Program) (t : TypeId) : Value → Int → Value → Prop
  | r {e : TypeId} {N : Nat} {cs : List Value} {p : Int} {v : Value} (ht : P.underlying t = some (.array N e)) (he : plainT P e = true) (h0 : 0 ≤ p) (h1 : p < N) (hn : nth cs p.toNat = some v) (hv : v.oneCell' = true) : IvV P t (.agg cs.toArray) p v
  | s {s : ByteArray} {p : Int} {b : UInt8} (ht : P.underlying t = some .string) (h0 : 0 ≤ p) (hn : s[p.toNat]? = some b) : IvV P t (.string s) p (.int .u8 b.toNat)
inductive FaV (P : Program) (t : TypeId) (i : Nat) : Addr → Addr → Prop
  | z {g o : Nat} {fs : List Field} (ht : P.underlying t = some (.struct fs.toArray)) (hf : fieldOff fs i = some o) (hz : KR (stOf P t = true)) : FaV P t i ⟨g, 0, none⟩ ⟨g, o, none⟩
  | b {g j o : Nat} {fs : List Field} (ht : P.underlying t = some (.struct fs.toArray)) (hf : fieldOff fs i = some o) (hz : KR (stOf P t = true)) : FaV P t i ⟨g, j, none⟩ ⟨g, j + o, none⟩
  | a {a : Addr} {o : Nat} {fs : List Field} (ht : P.underlying t = some (.struct fs.toArray)) (hf : fieldOff fs i = some o) (hz : KR (stOf P t = true)) : FaV P t i a (a.add o)
/-- len, cap, min, max. -/
inductive BiV (P : Program) (L : List Fa) : Builtin → List Value → List TypeId → Value → Prop
  | len {e t : TypeId} {A : Option Addr} {m c : Nat} (h : P.underlying t = some (.slice e)) : BiV P L .len [.slice A m c] [t] (.int .i64 m)
  | str {t : TypeId} {s : ByteArray} (h : P.underlying t = some .string) : BiV P L .len [.string s] [t] (.int .i64 s.size)
  | cap {e t : TypeId} {A : Option Addr} {m c : Nat} (h : P.underlying t = some (.slice e)) : BiV P L .cap [.slice A m c] [t] (.int .i64 c)
  | mlen {t kt e : TypeId} {g ck : Nat} {d : TypeDesc} {es : List MapEntry} (hb : At (mp g d es ck) L) (h : P.underlying t = some (.map kt e)) : BiV P L .len [.map (some g)] [t] (.int .i64 es.length)
  | min {t t' : TypeId} {k k' : IntKind} {p q : Int} : BiV P L .min [.int k p, .int k' q] [t, t'] (.int k (if q < p then q else p))
  | max {t t' : TypeId} {k k' : IntKind} {p q : Int} : BiV P L .max [.int k p, .int k' q] [t, t'] (.int k (if p < q then q else p))

/-- What an operation is worth, where the facts L are known. -/
inductive PuI (P : Program) (L : List Fa) (l : Env) : Op → Value → Prop
  | move {x : Operand} {v : Value} (h : ev l x = some v) : PuI P L l (.move x) v
  | assign {x : Operand} {v : Value} (h : ev l x = some v) : PuI P L l (.assign x) v
  | pick {x y z : Operand} {b : Bool} {v : Value} (h : ev l x = some (.bool b)) (hp : Pk b (ev l y) (ev l z) v) : PuI P L l (.pick x y z) v
  | not {t : TypeId} {x : Operand} {b : Bool} (h : ev l x = some (.bool b)) : PuI P L l (.unOp .not t x) (.bool (!b))
  | neg {t : TypeId} {x : Operand} {k : IntKind} {p r : Int} (h : ev l x = some (.int k p)) (hw : Wr k (-p) r) : PuI P L l (.unOp .neg t x) (.int k r)
  | eql {t t' : TypeId} {x y : Operand} {v u : Value} {b : Bool} (h : ev l x = some v) (h2 : ev l y = some u) (he : EqV P t v u b) : PuI P L l (.binOp .eql t x y t') (.bool b)
  | neq {t t' : TypeId} {x y : Operand} {v u : Value} {b : Bool} (h : ev l x = some v) (h2 : ev l y = some u) (he : EqV P t v u b) : PuI P L l (.binOp .neq t x y t') (.bool (!b))
  | shl {t t' : TypeId} {x y : Operand} {k k' : IntKind} {p q r : Int} (h : ev l x = some (.int k p)) (h2 : ev l y = some (.int k' q)) (h0 : 0 ≤ q) (h1 : q ≤ k.bits) (hw : Wr k (p * 2 ^ q.toNat) r) : PuI P L l (.binOp .shl t x y t') (.int k r)
  | shr {t t' : TypeId} {x y : Operand} {v u r : Value} (h : ev l x = some v) (h2 : ev l y = some u) (hs : ShV v u r) : PuI P L l (.binOp .shr t x y t') r
  | ar {o : BinOp} {t t' : TypeId} {x y : Operand} {v u r : Value} (h : ev l x = some v) (h2 : ev l y = some u) (ha : ArV o v u r) : PuI P L l (.binOp o t x y t') r
  | load {t : TypeId} {x : Operand} {a : Addr} {v : Value} (h : ev l x = some (.pointer (some a))) (hl : LdV P L t a v) : PuI P L l (.load t x) v
  | fa {t : TypeId} {x : Operand} {i : Nat} {a b : Addr} (h : ev l x = some (.pointer (some a))) (hf : FaV P t i a b) : PuI P L l (.fieldAddr t x i) (.pointer (some b))
  | nilCheck {x : Operand} {a : Addr} (h : ev l x = some (.pointer (some a))) : PuI P L l (.nilCheck x) (.pointer (some a))
  | com {t : TypeId} {x : Operand} {k : IntKind} {p : Int} (h : ev l x = some (.int k p)) : PuI P L l (.unOp .xor t x) (.int k (compl k p))
  | look {t : TypeId} {x y : Operand} {c : Bool} {g : Nat} {k v : Value} (h : ev l x = some (.map (some g))) (h2 : ev l y = some k) (hl : LkV P L t g k c v) : PuI P L l (.lookup t x y c) v
  | entry {x : Operand} {r g ck : Nat} {d : TypeDesc} {es vs : List MapEntry} {me : MapEntry} (h : ev l x = some (.pointer (some ⟨r, 0, none⟩))) (hi : At (itr r g ck (vs ++ [me])) L) (hb : At (mp g d es ck) L) (he : me ∈ es) : PuI P L l (.entry x) (.tuple #[me.key, me.val])
  | sl3 {t e : TypeId} {x y z : Operand} {A : Option Addr} {m c i j sz : Nat} {k k' : IntKind} {p q : Int} (h : ev l x = some (.slice A m c)) (h2 : ev l y = some (.int k p)) (h3 : ev l z = some (.int k' q)) (ht : P.underlying t = some (.slice e)) (hs : szOf P e = some sz) (hp : p = (i : Int)) (hq : q = (j : Int)) (h1 : i ≤ j) (h4 : j ≤ c) : PuI P L l (.slice t x none (some y) (some z)) (.slice A i j)
  | index {t : TypeId} {x y : Operand} {k : IntKind} {p : Int} {v u : Value} (h : ev l x = some v) (h2 : ev l y = some (.int k p)) (hi : IvV P t v p u) : PuI P L l (.index t x y) u
  | extract {x : Operand} {i : Nat} {vs : List Value} {v : Value} (h : ev l x = some (.tuple vs.toArray)) (hn : nth vs i = some v) : PuI P L l (.extract x i) v
  | mkf {f : FuncId} {xs : List Operand} {vs : List Value} (h : evs l xs = some vs) : PuI P L l (.makeFunc (.func f) #[] xs.toArray) (.func (.func f) #[] vs.toArray)
  | conv {t t' : TypeId} {x : Operand} {k k' : IntKind} {p r : Int} (h : ev l x = some (.int k p)) (hs : (P.underlying t).isSome = true) (hd : P.underlying t' = some (.int k')) (hw : Wr k' p r) : PuI P L l (.convert t t' x) (.int k' r)
  | bi {b : Builtin} {xs : List Operand} {ts : List TypeId} {vs : List Value} {v : Value} (h : evs l xs = some vs) (hb : BiV P L b vs ts v) : PuI P L l (.call { callee := .builtin b, args := xs.toArray, argTypes := ts.toArray }) v
  | ia {t : TypeId} {x y : Operand} {v u r : Value} (h : ev l x = some v) (h2 : ev l y = some u) (hi : IxV P t v u r) : PuI P L l (.indexAddr t x y) r
  | sl {t : TypeId} {x : Operand} {lo hi : Option Operand} {v r : Value} {a b : Option Value} (h : ev l x = some v) (h2 : evo l lo = some a) (h3 : evo l hi = some b) (hs : SlV P t v a b r) : PuI P L l (.slice t x lo hi none) r

section
variable {P : Program} {C : World → Prop} {n : Nat} {l : Env} {L : List Fa} {ty : TypeId} {op : Op} {v : Value}
theorem evs1 {x : Operand} {v : Value} (h : evs l [x] = some [v]) : ev l x = some v := by
  simp only [evs] at h
  cases hx : ev l x with
  | none => rw [hx] at h; cases h
  | some u => rw [hx] at h; simp at h; rw [h]
theorem evs2 {x y : Operand} {v u : Value} (h : evs l [x, y] = some [v, u]) : ev l x = some v ∧ ev l y = some u := by
  simp only [evs] at h
  cases hx : ev l x with
  | none => rw [hx] at h; cases h
  | some a =>
    cases hy : ev l y with
    | none => rw [hx, hy] at h; cases h
    | some b => rw [hx, hy] at h; simp at h; rw [h.1, h.2]; exact ⟨rfl, rfl⟩
theorem evs_len : ∀ {xs : List Operand} {vs : List Value}, evs l xs = some vs → xs.length = vs.length
  | [], vs, h => by simp [evs] at h; subst h; rfl
  | x :: r, vs, h => by
    rw [evs] at h
    split at h
    · rename_i v vs' h1 h2
      simp at h
      subst h
      simp [evs_len h2]
    · cases h
theorem evo_none : ∀ {o : Option Operand}, evo l o = some none → o = none
  | none, _ => rfl
  | some x, h => by
    simp only [evo] at h
    cases hx : ev l x with
    | none => rw [hx] at h; simp at h
    | some v => rw [hx] at h; simp at h
theorem evo_some : ∀ {o : Option Operand} {v : Value}, evo l o = some (some v) → ∃ x, o = some x ∧ ev l x = some v
  | none, v, h => by simp [evo] at h
  | some x, v, h => by
    simp only [evo] at h
    cases hx : ev l x with
    | none => rw [hx] at h; simp at h
    | some u =>
      rw [hx] at h
      simp at h
      exact ⟨x, rfl, by rw [hx, h]⟩
theorem PuI.pu (hC : ∀ W, C W → ∀ f, At f L → f.P W) (h : PuI P L l op v) : Pu P C n l op ty v := by
  cases h with
  | move h => exact pu_move h
  | assign h => exact pu_assign h
  | @pick x y z b v h hp =>
    cases b with
    | true =>
      generalize hy : ev l y = oy at hp
      cases hp
      exact pu_pick_t h hy
    | false =>
      generalize hz : ev l z = oz at hp
      cases hp
      exact pu_pick_f h hz
  | not h => exact pu_not h
  | neg h hw => rw [← hw.eq]; exact pu_neg h
  | eql h h2 he =>
    cases he with
    | i hd => rw [← hd.eq]; exact pu_eql_d h h2
    | o ht => exact pu_bool_eql ht h h2
    | s => exact pu_str_eql_same h h2
    | n => exact pu_str_eql h h2
    | p ht => exact pu_ptr_some_eql h h2 ht
    | q ht => exact pu_ptr_none_eql h h2 ht
    | c ht => exact pu_slice_some_eql h h2 ht
    | d ht => exact pu_slice_none_eql h h2 ht
  | neq h h2 he =>
    cases he with
    | i hd => rw [← hd.eq]; exact pu_neq_d h h2
    | o ht => exact pu_bool_neq ht h h2
    | s => exact pu_str_neq_same h h2
    | n => exact pu_str_neq h h2
    | p ht => exact pu_ptr_some_neq h h2 ht
    | q ht => exact pu_ptr_none_neq h h2 ht
    | c ht => exact pu_slice_some_neq h h2 ht
    | d ht => exact pu_slice_none_neq h h2 ht
  | shl h h2 h0 h1 hw => rw [← hw.eq]; exact pu_shl h h2 h0 h1
  | shr h h2 hs =>
    cases hs with
    | o hb => exact pu_shr_1 h h2 hb
    | f hb => exact pu_shr_4 h h2 hb
    | n h0 hb => exact pu_shr h h2 h0 hb
  | ar h h2 ha =>
    cases ha with
    | add hw => rw [← hw.eq]; exact pu_add_w h h2
    | sub hw => rw [← hw.eq]; exact pu_sub_w h h2
    | mul hw => rw [← hw.eq]; exact pu_mul_w h h2
    | quo h0 h1 hw => rw [← hw.eq]; exact pu_quo_0 h h2 h0 h1
    | rem h0 h1 => exact pu_rem_0 h h2 h0 h1
    | and => exact pu_and h h2
    | or => exact pu_or h h2
    | xor => exact pu_xor h h2
    | lss hd => rw [← hd.eq]; exact pu_lss h h2
    | leq hd => rw [← hd.eq]; exact pu_leq h h2
    | gtr hd => rw [← hd.eq]; exact pu_gtr h h2
    | geq hd => rw [← hd.eq]; exact pu_geq h h2
  | load h hl =>
    cases hl with
    | @b g i t' cs v hb ht hn => exact pu_load_b h ht (fun W hW => by have := hC W hW _ hb; unfold blk at this; exact this) (by simpa using hn)
    | @w g t' td cs hb hu hd hs => exact pu_load_agg (cs := cs) h hu hd (by simpa using hs) (fun W hW j v hj => by
        have hb' : Blk W g t' cs.toArray := by have := hC W hW _ hb; unfold blk at this; exact this
        rw [add_none, Nat.zero_add, hb'.cell]
        simpa using hj)
    | @s g i t' td cs cl hb hm hu hd hs => exact pu_load_agg h hu hd hs (fun W hW j v hj => by
        have hb' : Blk W g t' cs.toArray := by have := hC W hW _ hb; unfold blk at this; exact this
        rw [add_none, hb'.cell]
        simpa using hm j v hj)
    | @o e size m c i a xs v hb hm ht hn => exact pu_load h ht (fun W hW => by
        have hO := hC W hW _ hb
        unfold own at hO
        obtain ⟨ad', e1, h2⟩ := (Reads.of_own hO).2 hm
        cases e1
        exact h2 i v (by rw [← nth_eq]; exact hn))
    | @m e size m c i a td xs cl hb hm hd0 hu hd hs => exact pu_load_agg h hu hd hs (fun W hW j v hj => by
        have hO := hC W hW _ hb
        unfold own at hO
        obtain ⟨ad', e1, h2⟩ := (Reads.of_own hO).2 hm
        cases e1
        rw [add_twice]
        exact h2 _ v (hd0 j v hj))
  | fa h hf =>
    cases hf with
    | z ht hf hz => exact pu_fieldAddr_0 h ht hf hz.h
    | b ht hf hz => exact pu_fieldAddr_b h ht hf hz.h
    | a ht hf hz => exact pu_fieldAddr h ht hf hz.h
  | nilCheck h => exact pu_nilCheck h
  | com h => exact pu_com h
  | look h h2 hl =>
    cases hl with
    | t hb ht hd hk hg => exact pu_look (c := true) (fun W hW => hC W hW _ hb) h h2 ht hd hk hg
    | f hb ht hd hk hg hz => exact pu_look_no (c := true) (fun W hW => hC W hW _ hb) h h2 ht hd hk hg hz
    | t1 hb ht hd hk hg => exact pu_look (c := false) (fun W hW => hC W hW _ hb) h h2 ht hd hk hg
    | f1 hb ht hd hk hg hz => exact pu_look_no (c := false) (fun W hW => hC W hW _ hb) h h2 ht hd hk hg hz
    | tk hb ht hk hg => exact pu_lookK (c := true) (fun W hW => hC W hW _ hb) h h2 ht hk hg
    | fk hb ht hk hg hz => exact pu_look_noK (c := true) (fun W hW => hC W hW _ hb) h h2 ht hk hg hz
    | tk1 hb ht hk hg => exact pu_lookK (c := false) (fun W hW => hC W hW _ hb) h h2 ht hk hg
    | fk1 hb ht hk hg hz => exact pu_look_noK (c := false) (fun W hW => hC W hW _ hb) h h2 ht hk hg hz
  | entry h hi hb he => exact pu_entry (fun W hW => hC W hW _ hb) (fun W hW => hC W hW _ hi) h he
  | sl3 h h2 h3 ht hs hp hq h1 h4 => exact pu_slice_m h h2 h3 ht hs hp hq h1 h4
  | index h h2 hi =>
    cases hi with
    | r ht he h0 h1 hn hv => exact pu_index_arr h h2 ht he h0 h1 hn hv
    | s ht h0 hn => exact pu_index_str h h2 ht h0 hn
  | extract h hn => exact pu_extract h hn
  | mkf h => exact pu_makeFunc h
  | conv h hs hd hw => rw [← hw.eq]; exact pu_conv h hs hd
  | @bi b xs ts vs v h hb =>
    have hl := evs_len h
    cases hb with
    | len ht =>
      match xs, hl with
      | [x], _ => exact pu_len (evs1 h) ht
    | str ht =>
      match xs, hl with
      | [x], _ => exact pu_len_str (evs1 h) ht
    | mlen hb ht =>
      match xs, hl with
      | [x], _ => exact pu_lenm (fun W hW => hC W hW _ hb) (evs1 h) ht
    | cap ht =>
      match xs, hl with
      | [x], _ => exact pu_cap (evs1 h) ht
    | min =>
      match xs, hl with
      | [x, y], _ => exact pu_min (evs2 h).1 (evs2 h).2
    | max =>
      match xs, hl with
      | [x, y], _ => exact pu_max (evs2 h).1 (evs2 h).2
  | ia h h2 hi =>
    cases hi with
    | n ht hs hj => exact pu_indexAddr_n h h2 ht hs hj
    | a ht hs hj => exact pu_indexAddr_a h h2 ht hs hj
    | p ht hs h0 h1 => exact pu_indexAddr h h2 ht hs h0 h1
    | y ht hs h0 h1 => exact pu_indexAddr_y h h2 ht hs h0 h1
  | @sl t x lo hi v r a b h h2 h3 hs =>
    have ex : ∀ {o : Option Operand}, evo l o = some none → o = none := fun {o} ho => evo_none ho
    have ey : ∀ {o : Option Operand} {v : Value}, evo l o = some (some v) → ∃ x, o = some x ∧ ev l x = some v := fun {o v} ho => evo_some ho
    cases hs with
    | a ht hz hm =>
      obtain rfl := ex h2
      obtain rfl := ex h3
      exact pu_slice_a h ht hz hm
    | r ht hz =>
      obtain rfl := ex h2
      obtain rfl := ex h3
      exact pu_slice_arr h ht hz
    | h ht hz hp hj =>
      obtain rfl := ex h2
      obtain ⟨y, rfl, hy⟩ := ey h3
      exact pu_slice_hn h hy ht hz hp hj
    | l ht hz hp hj hm =>
      obtain ⟨y, rfl, hy⟩ := ey h2
      obtain rfl := ex h3
      exact pu_slice_ln h hy ht hz hp hj hm
    | g ht hz hp hq hj hm =>
      obtain ⟨y, rfl, hy⟩ := ey h2
      obtain ⟨z, rfl, hz'⟩ := ey h3
      exact pu_slice_lhn h hy hz' ht hz hp hq hj hm
theorem PuI.sep (h : PuI P L l op v) : Pu P (In L) n l op ty v := h.pu fun _ hW _ hf => hW.at hf
theorem PuI.all (h : PuI P L l op v) : Pu P (fun W => AllP W L) n l op ty v := h.pu fun _ hW _ hf => hW.at hf
end

/-! Code. -/
inductive CkC : Bool → Code → Code → Code → Prop
  | t {x y : Code} : CkC true x y x
  | f {x y : Code} : CkC false x y y
inductive BkI : Exit → Nat → Exit → Prop
  | n {id : Nat} : BkI .normal id .normal
  | h {id : Nat} : BkI (.exit id) id .normal
  | m {id id' : Nat} (h : Nat.beq id' id = false) : BkI (.exit id') id (.exit id')
  | r {id : Nat} : BkI .ret id .ret
  | p {id : Nat} {c : List PanicEntry} : BkI (.panic c) id (.panic c)
inductive PsI : Exit → Prop
  | x {id : Nat} : PsI (.exit id)
  | r : PsI .ret
  | p {c : List PanicEntry} : PsI (.panic c)
section
variable {P : Program} {Q : Exit → Act → World → Prop} {n : Nat} {l : Env} {L : List Fa}
theorem sc_cond {c : Operand} {x y z : Code} {b : Bool} (hc : ev l c = some (.bool b)) (hk : CkC b x y z) (h : SC P z Q n l L) : SC P (.cond c x y) Q n l L := by
  cases hk with
  | t => exact sc_if_t hc h
  | f => exact sc_if_f hc h
theorem se_blk {e e' : Exit} {id : Nat} (hb : BkI e id e') (h : SE Q e' n l L) : SE (Exit.inBlock id Q) e n l L := by
  cases hb with
  | n => exact se_block h
  | h => exact se_block_hit h
  | m hm => exact se_block_miss hm h
  | r => exact se_block_ret h
  | p => exact se_block_panic h
theorem se_pass {K : Act → World → Prop} {e : Exit} (hp : PsI e) (h : SE Q e n l L) : SE (Exit.then K Q) e n l L := by
  cases hp with
  | x => exact se_then_exit h
  | r => exact se_then_ret h
  | p => exact se_then_panic h
end
end Go.Proofs.YtocaabnbmcpjmaaGreatDoor
/- == on structs, field by field. No program is in sight. -/
namespace Go.Proofs.YtocaabnbmcpjmaaGreatDoor
open Go.RowKit
section
variable {P : Program} {w : World} {d off k : Nat} {xs ys : List Value} {f : Field} {fs : List Field} {r : Bool}
end

/-! A struct or an array stored into a part of a block; one cell of a symbolic block. -/
theorem setCells_mid {g : Nat} {t : TypeId} : ∀ (vs : List Value) (o : Nat) (w : World) (cur : List Value), Blk w g t cur.toArray → o + vs.length ≤ cur.length → Blk (w.setCells g o vs) g t (cur.take o ++ vs ++ cur.drop (o + vs.length)).toArray
  | [], o, w, cur, h, _ => by
    simpa [World.setCells] using h
  | v :: r, o, w, cur, h, ho => by
    rw [List.length_cons] at ho
    have h0 : Blk (w.setCell ⟨g, o, none⟩ v) g t (cur.set o v).toArray := by simpa using h.set_ o v
    have h1 := setCells_mid r (o + 1) _ (cur.set o v) h0 (by rw [List.length_set]; omega)
    have e : (cur.set o v).take (o + 1) ++ r ++ (cur.set o v).drop (o + 1 + r.length) = cur.take o ++ (v :: r) ++ cur.drop (o + (v :: r).length) := by
      rw [List.take_set, List.take_succ_eq_append_getElem (by omega), List.set_append_right _ _ (by simp; omega), List.drop_set_of_lt (by omega)]
      simp only [List.length_take, List.length_cons]
      rw [Nat.min_eq_left (by omega), Nat.sub_self]
      simp
      congr 1
      omega
    rw [e] at h1
    exact h1
theorem sl_store_mid {P : Program} {ops : Array Oper} {Q : Exit → Act → World → Prop} {n : Nat} {l : Env} {L L' : List Fa} {rest : List Oper} {t t' ty : TypeId} {pos : String} {after : Array Edge} {x y : Operand} {g o : Nat} {cs cl : List Value} (hx : ev l x = some (.pointer (some ⟨g, o, none⟩))) (hp : Pick (blk g t' cs) L L') (hy : ev l y = some (.agg cl.toArray)) (hi : szOf P t = some cl.length) (hc : o + cl.length ≤ cs.length) (h1 : ∀ v ∈ cl, v.oneCell' = true)
    (h : SL P ops Q rest n l (blk g t' (cs.take o ++ cl ++ cs.drop (o + cl.length)) :: L')) : SL P ops Q (⟨none, .store t x y, ty, pos, after, none⟩ :: rest) n l L := sl_of fun w hw => WL.mk fun a hs => by
  have h2 := hw.pick hp
  have hb : Blk w g t' cs.toArray := by
    have := h2.hd
    unfold blk at this
    exact this
  have hB := setCells_mid cl o w cs hb hc
  refine wpList_store_mid rfl t x y rfl g o cl.toArray (hs.ev hx) (hs.ev hy) (fun j hj => ⟨by rw [hb.cell, Array.getElem?_eq_getElem (by simp at hj ⊢; omega)]; rfl, hb.frozen _⟩) (by rw [← szOf_eq]; simpa using hi) (all_oneCell_toArray h1) ?_
  refine (h.to (h2.step (f := blk g t' cs) (setCells_fr _ _ _) (fun k _ e => by unfold blk; exact e) ?_ (fun k e => .inl (by unfold blk at e ⊢; exact e)))).get hs
  unfold blk
  simpa using hB
theorem SetAt.tail {a b : List Value} {i k : Nat} {v : Value} {r : List Value} (hk : a.length = k) (h : SetAt i v b r) : SetAt (k + i) v (a ++ b) (a ++ r) := by
  subst hk
  induction a with
  | nil => simpa using h
  | cons x a ih =>
    rw [List.length_cons, Nat.add_right_comm]
    exact SetAt.there ih
end Go.Proofs.YtocaabnbmcpjmaaGreatDoor
/- More steps over facts: stores into owned rows, several facts as one, entailments. No program is in sight. -/
namespace Go.Proofs.YtocaabnbmcpjmaaGreatDoor
open Go.RowKit

/-! One set of facts for another. -/
def Ent_ (L L' : List Fa) : Prop := ∀ w, Sep w L → Sep w L'
section
variable {L L' L1 K G : List Fa} {f g : Fa} {w : World}
theorem Ent_.sub (h : Sub L L') : Ent_ L L' := fun _ hw => hw.sub h
theorem Ent_.trans (h : Ent_ L L1) (h' : Ent_ L1 L') : Ent_ L L' := fun w hw => h' w (h w hw)
theorem star_out : Ent_ (star G :: K) (G ++ K) := fun w hw => by
  have h1 : Sep w G := by
    have := hw.hd
    unfold star at this
    exact this
  refine h1.app hw.tl (fun k hk hk' => ?_)
  obtain ⟨f, hf, hk'⟩ := hk'
  refine hw.apart f hf k ?_ hk'
  unfold star
  exact hk
theorem star_in : Ent_ (G ++ K) (star G :: K) := fun w hw => by
  have h1 : (star G).P w := by
    unfold star
    exact hw.app_l
  exact (sep_one h1).app hw.app_r (fun k hk hk' => by
    rcases foot_cons.1 hk with e | e
    · unfold star at e
      exact hw.app_apart k e hk'
    · exact foot_nil e)
theorem Ent_.tail {f : Fa} (h : Ent_ L L') (hf : ∀ k, foot L' k → foot L k) : Ent_ (f :: L) (f :: L') := fun w hw =>
  (sep_one hw.hd).app (h w hw.tl) (fun k hk hk' => by
    rcases foot_cons.1 hk with e | e
    · obtain ⟨y, hy, hky⟩ := hf k hk'
      exact hw.apart y hy k e hky
    · exact foot_nil e)
section
variable {P : Program} {ops : Array Oper} {Q : Exit → Act → World → Prop} {n : Nat} {l : Env} {rest : List Oper} {S : World → Prop} {need : Nat → Bool} {fuel : Nat} {listed : Array Bool}
theorem se_ent {e : Exit} (h : Ent_ L L') (hk : SE Q e n l L') : SE Q e n l L := by
  unfold SE at hk ⊢
  exact fun w hw => hk w (h w hw)
/-- A loop in its block, and what stands behind it. -/
theorem sc_bjoin {α : Type} {x y : Code} {id : Nat} (E : α → Env) (H : α → List Fa) (R : α → Prop) (hx : SC P x (Exit.inBlock id (Exit.then (fun a w => ∃ p : α, Sl n (E p) a ∧ R p ∧ Sep w (H p)) Q)) n l L) (hy : ∀ p, R p → SC P y Q n (E p) (H p)) : SC P x (Exit.inBlock id (Exit.then (fun a w => y.wp P Q a w) Q)) n l L := by
  unfold SC WC at hx hy ⊢
  intro w hw a hs
  have hm : ∀ e a w, Exit.then (fun a w => ∃ p : α, Sl n (E p) a ∧ R p ∧ Sep w (H p)) Q e a w → Exit.then (fun a w => y.wp P Q a w) Q e a w := by
    intro e a w h
    cases e
    · obtain ⟨p, h1, h2, h3⟩ := h
      exact hy p h2 w h3 a h1
    all_goals exact h
  refine Code.wp_mono (fun e a w h => ?_) (hx w hw a hs)
  cases e with
  | exit id' =>
    by_cases hc : id' = id
    · have h' : Exit.inBlock id (Exit.then (fun a w => ∃ p : α, Sl n (E p) a ∧ R p ∧ Sep w (H p)) Q) (.exit id') a w = Exit.then (fun a w => ∃ p : α, Sl n (E p) a ∧ R p ∧ Sep w (H p)) Q .normal a w := if_pos hc
      have h2 : Exit.inBlock id (Exit.then (fun a w => y.wp P Q a w) Q) (.exit id') a w = Exit.then (fun a w => y.wp P Q a w) Q .normal a w := if_pos hc
      rw [h2]
      rw [h'] at h
      exact hm _ _ _ h
    · have h' : Exit.inBlock id (Exit.then (fun a w => ∃ p : α, Sl n (E p) a ∧ R p ∧ Sep w (H p)) Q) (.exit id') a w = Exit.then (fun a w => ∃ p : α, Sl n (E p) a ∧ R p ∧ Sep w (H p)) Q (.exit id') a w := if_neg hc
      have h2 : Exit.inBlock id (Exit.then (fun a w => y.wp P Q a w) Q) (.exit id') a w = Exit.then (fun a w => y.wp P Q a w) Q (.exit id') a w := if_neg hc
      rw [h2]
      rw [h'] at h
      exact hm _ _ _ h
  | normal => exact hm .normal a w h
  | goto => exact hm (.goto _) a w h
  | ret => exact hm .ret a w h
  | panic => exact hm (.panic _) a w h
  | outgrown => exact hm .outgrown a w h
/-- Another way to say what is answered. -/
theorem Fn.say {f : FuncId} {args : Array Value} {α β : Type} {φ : α → Prop} {v : α → Value} {H : α → List Fa} {φ' : β → Prop} {v' : β → Value} {H' : β → List Fa} (h : Fn P f args L (Ret φ v H)) (he : ∀ x w, φ x → Sep w (H x) → ∃ y, φ' y ∧ v' y = v x ∧ Sep w (H' y)) : Fn P f args L (Ret φ' v' H') :=
  h.mono fun _ w' ⟨x, h1, h2, h3⟩ => by
    obtain ⟨y, e1, e2, e3⟩ := he x w' h1 h3
    exact ⟨y, e1, by rw [e2, h2], e3⟩
end
end

/-! Stores into owned rows. -/
section
variable {P : Program} {ops : Array Oper} {Q : Exit → Act → World → Prop} {n : Nat} {l : Env} {L L' : List Fa} {rest : List Oper} {ty t e : TypeId} {pos : String} {after : Array Edge} {x y : Operand} {g i c size k : Nat} {xs cl : List Value} {v : Value} {w : World}
theorem own_open (h : w.ownsRow 0 e size (.slice (some ⟨g, 0, none⟩) k c) k xs) : ∃ cur, Blk w g e cur ∧ k ≤ c ∧ c ≤ maxLen ∧ cur.size = c * size ∧ cur.toList.take (k * size) = xs ∧ xs.length = k * size := by
  obtain ⟨hxl, h⟩ := h
  rcases h with ⟨h, _⟩ | ⟨g', cap, cur, hv, hb, hh, hkc, hcm, hcs, htk⟩
  · cases h
  · cases hv
    exact ⟨cur, hh, hkc, hcm, hcs, htk, hxl⟩
theorem own_close {cur : Array Value} (hB : Blk w g e cur) (hkc : k ≤ c) (hcm : c ≤ maxLen) (hcs : cur.size = c * size) (htk : cur.toList.take (k * size) = xs) (hxl : xs.length = k * size) : w.ownsRow 0 e size (.slice (some ⟨g, 0, none⟩) k c) k xs :=
  ⟨hxl, .inr ⟨g, c, cur, rfl, Nat.zero_le _, hB, hkc, hcm, hcs, htk⟩⟩
theorem own_mk (h : w.ownsRow 0 e size (.slice (some ⟨g, 0, none⟩) k c) k xs) : (own e size (some ⟨g, 0, none⟩) k c xs).P w := by
  unfold own
  exact h
theorem own_F : (own e size (some ⟨g, 0, none⟩) k c xs).F = fun j => some g = some j := by
  unfold own
  rfl
theorem sep_set (hw : Sep w L) (hp : Pick (own e size (some ⟨g, 0, none⟩) k c xs) L L') (hi : i < k * size) : ∃ cur : Array Value, Blk w g e cur ∧ i < cur.size ∧ ∀ w', Fr (fun j => j = g) w w' → Blk w' g e (cur.setIfInBounds i v) → Sep w' (own e size (some ⟨g, 0, none⟩) k c (xs.set i v) :: L') := by
  have h2 := hw.pick hp
  have hO : w.ownsRow 0 e size (.slice (some ⟨g, 0, none⟩) k c) k xs := by
    have := h2.hd
    unfold own at this
    exact this
  obtain ⟨cur, hB, hkc, hcm, hcs, htk, hxl⟩ := own_open hO
  have hks : k * size ≤ c * size := Nat.mul_le_mul_right _ hkc
  refine ⟨cur, hB, by omega, fun w' hF hB' => h2.step hF (fun j _ e => by rw [own_F]; exact congrArg some e.symm) (own_mk (own_close hB' hkc hcm (by simpa using hcs) ?_ (by simpa using hxl))) (fun j hj => .inl (by rw [own_F] at hj ⊢; exact hj))⟩
  rw [← htk, Array.toList_setIfInBounds, List.take_set]
theorem sl_sto (hx : ev l x = some (.pointer (some ⟨g, i, none⟩))) (hp : Pick (own e size (some ⟨g, 0, none⟩) k c xs) L L') (hy : ev l y = some v) (h1 : v.oneCell' = true) (ht : szOf P t = some 1) (hi : i < k * size)
    (h : SL P ops Q rest n l (own e size (some ⟨g, 0, none⟩) k c (xs.set i v) :: L')) : SL P ops Q (⟨none, .store t x y, ty, pos, after, none⟩ :: rest) n l L := sl_of fun w hw => by
  obtain ⟨cur, hB, hi', hk⟩ := sep_set (v := v) hw hp hi
  exact wl_store hx hy h1 ht hB hi' (fun w' hF _ hB' => h.to (hk w' hF hB'))
end
section
variable {X : Type} {C : X → List Value} {sz : Nat}
end
/-! copy into a block. -/
section
variable {P : Program} {ops : Array Oper} {Q : Exit → Act → World → Prop} {n : Nat} {l : Env} {L L' : List Fa} {rest : List Oper} {d : Tmp} {dst : Option Tmp} {ty t t' t0 e : TypeId} {pos : String} {after : Array Edge} {x y : Operand} {g o dLen dCap sLen sCap size kk : Nat} {a : Addr} {cs cs0 : List Value}
end
section
variable {P : Program} {ops : Array Oper} {Q : Exit → Act → World → Prop} {n : Nat} {l : Env} {L : List Fa} {S : World → Prop} {need : Nat → Bool} {fuel : Nat} {listed : Array Bool} {e t' : TypeId} {size m c g : Nat} {A : Option Addr} {xs : List Value}
theorem results_cell1 {fn : Func} {p : Tmp} {ty : TypeId} (h : fn.results = #[.cell p ty]) (tmps : Array Value) (P : Program) (w : World) :
    (results fn tmps).run P w = ((asAddr (tmps.getD p undef)).run P w).andThen fun a w₁ => (loadVar ty a).run P w₁ := by
  simp only [results, h]
  simp [Sem.run_bind, Result.andThen]
/-- A result that is a variable in memory. -/
theorem se_ret_c {fn : Func} {α : Type} {φ : α → Prop} {vv : α → Value} {H : α → List Fa} {tp : Nat} {ty : TypeId} {td : TypeDesc} {csx : List Value} (x : α) (hφ : φ x) (hr : fn.results = #[.cell tp ty]) (hv : lk l tp = some (.pointer (some ⟨g, 0, none⟩))) (hb : At (blk g t' csx) L) (hu : P.underlying ty = some td) (hd' : (match td with | .struct _ | .array _ _ => true | _ => false) = true) (hi : szOf P ty = some csx.length)
    (he : vv x = .agg csx.toArray) (hs : Sub L (H x)) : SE (bodyPost P fn (Ret φ vv H)) .ret n l L := se_of fun w hw => WE.mk fun a hs' => by
  refine bodyPost_ret (v := vv x) ?_ hs'.df ⟨x, hφ, rfl, hw.sub hs⟩
  rw [results_cell1 hr, hs'.get hv, he]
  have hB : Blk w g t' csx.toArray := blk_at hw hb
  have hl := run_loadVar_at (P := P) w ⟨g, 0, none⟩ ty csx td (fun j v hj => by
    rw [add_none, Nat.zero_add, hB.cell]
    simpa using hj) hu hd' (by rw [← szOf_eq]; exact hi)
  simp [asAddr, hl]
end
section
variable {P : Program} {ops : Array Oper} {Q : Exit → Act → World → Prop} {n : Nat} {l : Env} {L L' : List Fa} {rest : List Oper} {ty t e : TypeId} {pos : String} {after : Array Edge} {x y : Operand} {g i c size k : Nat} {xs cl : List Value} {v : Value} {w : World} {p : Addr}
end
end Go.Proofs.YtocaabnbmcpjmaaGreatDoor
/- Ids and reports as they lie in memory. -/
namespace Go.Proofs.YtocaabnbmcpjmaaGreatDoor
open Go.RowKit

/-- Sixteen bytes. -/
structure Id where
  l : List Int
  len : l.length = 16
  ok : IsBytes l
theorem Id.ext_ {a b : Id} (h : a.l = b.l) : a = b := by
  cases a
  cases b
  simp at h
  subst h
  rfl
abbrev Id.v (a : Id) : Value := .agg (bytes a.l).toArray
theorem bytes_length (xs : List Int) : (bytes xs).length = xs.length := by simp [bytes]
theorem Vw.of_blk {g : Nat} {t : TypeId} {cs : List Value} {n : Nat} {L : List Fa} (h : At (blk g t cs) L) (hn : cs.length = n) : Vw L (fun w => Reads w 1 (some ⟨g, 0, none⟩) n cs) := fun w hw => by
  have h1 : Blk w g t cs.toArray := by
    have := hw.at h
    unfold blk at this
    exact this
  have := Reads.of_blk (n := n) (size := 1) h1 (by simpa using hn)
  simpa using this

structure Seen where
  id : Id
  t : Int
  c : Int
  tb : 0 ≤ t ∧ t ≤ 18446744073709551615
  cb : -9223372036854775808 ≤ c ∧ c ≤ 9223372036854775807
def Seen.cells (s : Seen) : List Value := bytes s.id.l ++ [.int .u64 s.t, .int .i64 s.c]
abbrev Seen.v (s : Seen) : Value := .agg s.cells.toArray
theorem Seen.len (s : Seen) : s.cells.length = 18 := by simp [Seen.cells, bytes, s.id.len]
theorem Seen.one (s : Seen) : ∀ v ∈ s.cells, v.oneCell' = true := by
  intro v hv
  rcases List.mem_append.1 hv with h | h
  · exact one_bytes _ v h
  · simp at h
    rcases h with h | h <;> subst h <;> rfl
theorem Seen.nt (s : Seen) : nth s.cells 16 = some (.int .u64 s.t) := by
  rw [nth_eq, Seen.cells, List.getElem?_append_right (by simp [bytes, s.id.len])]
  simp [bytes, s.id.len]
theorem Seen.nc (s : Seen) : nth s.cells 17 = some (.int .i64 s.c) := by
  rw [nth_eq, Seen.cells, List.getElem?_append_right (by simp [bytes, s.id.len])]
  simp [bytes, s.id.len]
theorem Seen.mid (s : Seen) : Mid s.cells 0 (bytes s.id.l) := Mid.head
theorem Seen.ext_ {a b : Seen} (h : a.id.l = b.id.l) (h1 : a.t = b.t) (h2 : a.c = b.c) : a = b := by
  obtain ⟨a0, a1, a2, _, _⟩ := a
  obtain ⟨b0, b1, b2, _, _⟩ := b
  have := Id.ext_ h
  simp at this h1 h2
  subst this h1 h2
  rfl

theorem Vw.of_blk_mid {g o : Nat} {t : TypeId} {cs : List Value} {bs : List Int} {L : List Fa} (h : At (blk g t cs) L) (hm : Mid cs o (bytes bs)) : Vw L (fun w => Reads w 1 (some ⟨g, o, none⟩) bs.length (bytes bs)) := fun w hw => by
  have h1 := blk_at hw h
  refine ⟨by rw [bytes_length, Nat.mul_one], fun _ => ⟨_, rfl, fun j u hu => ?_⟩⟩
  rw [add_none, h1.cell]
  simpa using hm j u hu
end Go.Proofs.YtocaabnbmcpjmaaGreatDoor
/- More steps over facts. No program is in sight. -/
namespace Go.Proofs.YtocaabnbmcpjmaaGreatDoor
open Go.RowKit
theorem SE.to {Q : Exit → Act → World → Prop} {e : Exit} {n : Nat} {l : Env} {L : List Fa} {w : World} (hw : Sep w L) (h : SE Q e n l L) : WE Q e n l w := by
  unfold SE at h
  exact h w hw
theorem nth_mid {pre m post : List Value} {k i : Nat} {v : Value} (hk : pre.length = k) (h : nth m i = some v) : nth (pre ++ m ++ post) (k + i) = some v := by
  rw [nth_eq] at h ⊢
  exact Mid.of_append hk i v h
end Go.Proofs.YtocaabnbmcpjmaaGreatDoor
/- A region that draws its order, in two parts: what only reads is taken first, wherever it stands; then the rest. No program is in sight. -/
namespace Go.Proofs.YtocaabnbmcpjmaaGreatDoor
open Go.RowKit
section
variable {P : Program} {ops : Array Oper} {Q : Exit → Act → World → Prop} {md : Region.Mode} {S : World → Prop} {need : Nat → Bool}
/-- Whatever order is picked from here on; what 'need' names keeps S. -/
def wpAnyE (P : Program) (md : Region.Mode) (ops : Array Oper) (Q : Exit → Act → World → Prop) (S : World → Prop) (need : Nat → Bool) : Nat → Array Bool → Act → World → Prop
  | 0, listed, a, w => Region.ready md ops listed = [] ∧ Q .normal a w
  | fuel + 1, listed, a, w =>
    (Region.ready md ops listed = [] → Q .normal a w) ∧
    ∀ i ∈ Region.ready md ops listed, wpOp P ops Q i (fun a' w' => (need i = true → S w → S w') ∧ wpAnyE P md ops Q S need fuel (listed.setIfInBounds i true) a' w') a w
end
section
variable {P : Program} {ops : Array Oper} {Q : Exit → Act → World → Prop} {n : Nat} {l : Env} {L L' : List Fa} {S : World → Prop} {need : Nat → Bool} {fuel : Nat} {listed : Array Bool} {d : Tmp} {op : Op} {ty : TypeId} {pos : String} {after : Array Edge} {v : Value}
/-- A region that draws its order: its first part. -/
def SX (P : Program) (ops : Array Oper) (Q : Exit → Act → World → Prop) (S : World → Prop) (need : Nat → Bool) (fuel : Nat) (listed : Array Bool) (n : Nat) (l : Env) (L : List Fa) : Prop := ∀ w, Sep w L → ∀ a, Sl n l a → wpAnyE P .any ops Q S need fuel listed a w
def freeOk (ops : Array Oper) (listed : Array Bool) (i : Nat) : Bool := Region.noSelect ops && Region.free .any ops listed i && (Region.ready .any ops listed).contains i
theorem freeOk_spec {i : Nat} (h : freeOk ops listed i = true) : Region.noSelect ops = true ∧ Region.free .any ops listed i = true ∧ (Region.ready .any ops listed).contains i = true := by
  unfold freeOk at h
  simp only [Bool.and_eq_true] at h
  exact ⟨h.1.1, h.1.2, h.2⟩
theorem PuI.free {C : World → Prop} (h : PuI P [] l op v) : Pu P C n l op ty v := h.pu fun _ _ _ hf => by cases hf
attribute [irreducible] SX
end
end Go.Proofs.YtocaabnbmcpjmaaGreatDoor
/- A region that draws its order: batches of what reads; what writes or calls goes by the steps of plain regions. No program is in sight. -/
namespace Go.Proofs.YtocaabnbmcpjmaaGreatDoor
open Go.RowKit
section
variable {P : Program} {ops : Array Oper} {Q : Exit → Act → World → Prop} {n : Nat} {l : Env} {L L' : List Fa} {S : World → Prop} {need : Nat → Bool} {fuel : Nat} {listed : Array Bool} {o : Oper} {i : Nat}
theorem wpOp_of_list {K : Act → World → Prop} {a : Act} {w : World} (ho : ops[i]? = some o) (h : wpList P ops (Exit.then K Q) [o] a w) : wpOp P ops Q i K a w := by
  unfold wpOp
  rw [ho]
  exact h
/-- What stands behind an operation of such a region. -/
def DK (P : Program) (ops : Array Oper) (Q : Exit → Act → World → Prop) (S : World → Prop) (need : Nat → Bool) (fuel : Nat) (listed : Array Bool) (i : Nat) : Act → World → Prop := fun a w => (need i = true → S w) ∧ wpAnyD P .any ops Q S need fuel (listed.setIfInBounds i true) a w
theorem sa_sl (i : Nat) (ho : ops[i]? = some o) (h : SL P ops (Exit.then (DK P ops Q S need fuel listed i) Q) [o] n l L) : SA P ops Q S need fuel listed n l L i := sa_of fun w hw => by
  unfold WA
  exact fun a hs => wpOp_of_list ho ((h.to hw).get hs)
theorem sd_one (i : Nat) (hr : Region.ready .any ops listed = [i]) (h : SA P ops Q S need fuel listed n l L i) : SD P ops Q S need (fuel + 1) listed n l L := sd_of fun w hw => by
  have h1 := h.to hw
  unfold WA at h1
  unfold WD
  exact fun a hs => D_one hr (h1 a hs)
theorem sd_many (is : List Nat) (hr : Region.ready .any ops listed = is) (hne : is ≠ []) (h : ∀ i ∈ is, SA P ops Q S need fuel listed n l L i) : SD P ops Q S need (fuel + 1) listed n l L := sd_of fun w hw => by
  unfold WD
  intro a hs
  refine ⟨fun h0 => absurd (hr ▸ h0) hne, fun k hk => ?_⟩
  have h1 := (h k (hr ▸ hk)).to hw
  unfold WA at h1
  exact h1 a hs
theorem sd_three (i j k : Nat) (hr : Region.ready .any ops listed = [i, j, k]) (hi : SA P ops Q S need fuel listed n l L i) (hj : SA P ops Q S need fuel listed n l L j) (hk : SA P ops Q S need fuel listed n l L k) : SD P ops Q S need (fuel + 1) listed n l L :=
  sd_many [i, j, k] hr (by simp) (fun x hx => by
    simp only [List.mem_cons, List.not_mem_nil, or_false] at hx
    rcases hx with h | h | h <;> (subst h; assumption))
theorem sd_four (i j k m : Nat) (hr : Region.ready .any ops listed = [i, j, k, m]) (hi : SA P ops Q S need fuel listed n l L i) (hj : SA P ops Q S need fuel listed n l L j) (hk : SA P ops Q S need fuel listed n l L k) (hm : SA P ops Q S need fuel listed n l L m) : SD P ops Q S need (fuel + 1) listed n l L :=
  sd_many [i, j, k, m] hr (by simp) (fun x hx => by
    simp only [List.mem_cons, List.not_mem_nil, or_false] at hx
    rcases hx with h | h | h | h <;> (subst h; assumption))
/-- The operation is done. -/
theorem se_sd (hS : need i = true → ∀ w, Sep w L → S w) (h : SD P ops Q S need fuel (listed.setIfInBounds i true) n l L) : SE (Exit.then (DK P ops Q S need fuel listed i) Q) .normal n l L := se_of fun w hw => WE.mk fun a hs => by
  have h1 := h.to hw
  unfold WD at h1
  exact ⟨fun e => hS e w hw, h1 a hs⟩
/-! Batches. -/
def GdOk (ops : Array Oper) (l : Env) : Option (Nat × Bool) → Bool → Prop
  | none, y => y = true
  | some (j, b), y => ∃ t c, (ops[j]?).bind (·.dst) = some t ∧ lk l t = some (.bool c) ∧ y = (b == c)
theorem GdOk.none : GdOk ops l none true := rfl
theorem GdOk.some {j t : Nat} {b c : Bool} (hj : (ops[j]?).bind (·.dst) = some t) (ht : lk l t = some (.bool c)) {y : Bool} (hy : (b == c) = y) : GdOk ops l (some (j, b)) y := ⟨t, c, hj, ht, hy.symm⟩
theorem GdOk.wanted {gd : Option (Nat × Bool)} {y : Bool} {dst : Option Tmp} {op : Op} {ty : TypeId} {pos : String} {after : Array Edge} {a : Act} (h : GdOk ops l gd y) (hs : Sl n l a) : Region.wanted ⟨dst, op, ty, pos, after, gd⟩ (yielded ops a.tmps) = y := by
  cases gd with
  | none =>
    cases h
    rfl
  | some p =>
    obtain ⟨j, b⟩ := p
    obtain ⟨t, c, h1, h2, h3⟩ := h
    unfold Region.wanted
    simp only [hs.yield h1 h2]
    rw [h3]
    cases b <;> cases c <;> rfl
/-- Does number j wait for number i, by itself or through others that did not come up yet? -/
def waitsFor (ops : Array Oper) (listed : Array Bool) (i : Nat) : Nat → Nat → Bool
  | 0, _ => false
  | f + 1, j => !listed.getD j true && ((ops[j]?).map fun o => o.after.any fun e => Region.binds .any e && (e.on == i || waitsFor ops listed i f e.on)).getD false
def stayOk2 (ops : Array Oper) (listed : Array Bool) (need : Nat → Bool) (i : Nat) : Bool :=
  (List.range ops.size).all fun j => j == i || listed.getD j true || need j || waitsFor ops listed i ops.size j
theorem stayOk2_spec {i : Nat} (h : stayOk2 ops listed need i = true) (j : Nat) (oj : Oper) (hj : ops[j]? = some oj) (hji : j ≠ i) (hun : listed.getD j true = false) (hR : ¬ ∃ f, waitsFor ops listed i f j = true) : need j = true := by
  unfold stayOk2 at h
  rw [List.all_eq_true] at h
  have h1 := h j (List.mem_range.2 (Array.getElem?_eq_some_iff.1 hj).1)
  simp only [Bool.or_eq_true, beq_iff_eq, hun, Bool.false_eq_true, or_false] at h1
  rcases h1 with (h1 | h1) | h1
  · exact absurd h1 hji
  · exact h1
  · exact absurd ⟨_, h1⟩ hR
theorem waitsFor_un {i j f : Nat} (h : waitsFor ops listed i f j = true) : listed.getD j true = false := by
  cases f with
  | zero => cases h
  | succ f =>
    unfold waitsFor at h
    rw [Bool.and_eq_true] at h
    simpa using h.1
theorem waitsFor_edge {i j f : Nat} {oj : Oper} (h : waitsFor ops listed i f j = true) (hj : ops[j]? = some oj) : ∃ e ∈ oj.after, Region.binds .any e = true ∧ (e.on = i ∨ ∃ f, waitsFor ops listed i f e.on = true) := by
  cases f with
  | zero => cases h
  | succ f =>
    unfold waitsFor at h
    rw [Bool.and_eq_true, hj] at h
    have h2 := h.2
    simp only [Option.map_some, Option.getD_some, Array.any_eq_true] at h2
    obtain ⟨k, hk, he⟩ := h2
    rw [Bool.and_eq_true, Bool.or_eq_true, beq_iff_eq] at he
    exact ⟨_, Array.getElem_mem hk, he.1, he.2.imp id (fun h => ⟨f, h⟩)⟩
/-- One that yields while S holds; what may come before it (without waiting for it, by itself or through others) keeps S. -/
theorem wpAnyD_first2 {R : Nat → Prop} {i : Nat} {oi : Oper} {v : Value} (hi : ops[i]? = some oi) (hsel : ∀ (j : Nat) (o : Oper) cs b, ops[j]? = some o → o.op ≠ .select cs b)
    (hQ : ∀ c a w, Q (.panic c) (a.put oi.dst v) w → Q (.panic c) a w)
    (hR : ∀ j oj, R j → ops[j]? = some oj → ∃ e ∈ oj.after, Region.binds .any e = true ∧ (e.on = i ∨ R e.on)) :
    ∀ (fuel : Nat) (listed : Array Bool) (a : Act) (w : World), (∀ j oj, ops[j]? = some oj → j ≠ i → listed.getD j true = false → ¬ R j → need j = true) → (∀ j, R j → listed.getD j true = false) →
      (∀ j oj, ops[j]? = some oj → j ≠ i → listed.getD j true = false → (∀ e ∈ oj.after, Region.binds .any e = true → e.on ≠ i) → oi.apart ops oj = true) →
      i ∈ Region.ready .any ops listed → YieldsIf P ops S oi v a → S w →
      wpAnyD P .any ops Q S need fuel (listed.setIfInBounds i true) (a.put oi.dst v) w → wpAnyD P .any ops Q S need (fuel + 1) listed a w := by
  intro fuel
  induction fuel with
  | zero =>
    intro listed a w _ _ _ hr hy hY H
    refine ⟨fun h => (by rw [h] at hr; cases hr), fun j hj => ?_⟩
    by_cases hji : j = i
    · subst hji; exact hy.wpOp hi hY ⟨fun _ => hY, H⟩
    · have := ready_mono hj hji
      rw [H.1] at this
      cases this
  | succ fuel ih =>
    intro listed a w hneed hRu hfree hr hy hY H
    refine ⟨fun h => (by rw [h] at hr; cases hr), fun j hj => ?_⟩
    by_cases hji : j = i
    · subst hji; exact hy.wpOp hi hY ⟨fun _ => hY, H⟩
    · have h1 := H.2 j (ready_mono hj hji)
      obtain ⟨hjun, oj, hoj, hall⟩ := mem_ready.1 hj
      have hiun : listed.getD i true = false := (mem_ready.1 hr).1
      have hlt : ∀ k, listed.getD k true = false → listed.getD k false = false := fun k h => by
        rcases Nat.lt_or_ge k listed.size with h' | h'
        · simp [h'] at h ⊢; exact h
        · simp [Array.getElem?_eq_none h']
      have hnot : ∀ e ∈ oj.after, Region.binds .any e = true → e.on ≠ i := fun e he hb heq => by
        have h1 := hall e he hb
        rw [heq, hlt i hiun] at h1
        cases h1
      have hnR : ¬ R j := fun hRj => by
        obtain ⟨e, he, hb, h2⟩ := hR j oj hRj hoj
        rcases h2 with h2 | h2
        · exact hnot e he hb h2
        · have h1 := hall e he hb
          rw [hlt _ (hRu _ h2)] at h1
          cases h1
      have hnd := hneed j oj hoj hji hjun hnR
      have h2 := wpOp_putIf hoj (hfree j oj hoj hji hjun hnot) (fun cs b => hsel i oi cs b hi) (fun cs b => hsel j oj cs b hoj) hQ hy h1
      have hlist : ∀ k, (listed.setIfInBounds j true).getD k true = false → listed.getD k true = false := fun k hun => by
        by_cases hjk : j = k
        · subst hjk; exact hjun
        · rw [getD_set_ne true hjk] at hun; exact hun
      refine wpOp_mono (fun a' w' h3 => ⟨h3.2.1, ih (listed.setIfInBounds j true) a' w' (fun k ok hk hki hun hno => hneed k ok hk hki (hlist k hun) hno) (fun k hk => ?_) (fun k ok hk hki hun hno => hfree k ok hk hki (hlist k hun) hno) (ready_mono hr (Ne.symm hji)) h3.1 (h3.2.1 hnd) ?_⟩) h2
      · rw [getD_set_ne true (fun e : j = k => hnR (e ▸ hk))]
        exact hRu k hk
      · rw [Array.setIfInBounds_comm _ _ hji]
        exact h3.2.2
/-- All of some facts, and the rest K as a whole. -/
def S2 (K L0 : List Fa) (W : World) : Prop := Sep W K ∧ AllP W L0
theorem PuI.all2 {K : List Fa} {op : Op} {ty : TypeId} {v : Value} (h : PuI P L l op v) : Pu P (S2 K L) n l op ty v := h.pu fun _ hW _ hf => hW.2.at hf
section
variable {d : Tmp} {op : Op} {ty : TypeId} {pos : String} {after : Array Edge} {v : Value} {gd : Option (Nat × Bool)}
theorem sd_yes2 (i : Nat) (hi : ops[i]? = some ⟨some d, op, ty, pos, after, gd⟩) (hg : GdOk ops l gd true) (hB : freeOk ops listed i = true) (hN : stayOk2 ops listed need i = true)
    (hQ : NoP Q) (hr : Pu P S n l op ty v) (hd : Nat.blt d n = true) (hS : ∀ w, Sep w L → S w) (h : SD P ops Q S need fuel (listed.setIfInBounds i true) n ((d, v) :: l) L) : SD P ops Q S need (fuel + 1) listed n l L := sd_of fun w hw => by
  have h1 := h.to hw
  unfold WD at h1 ⊢
  unfold Pu at hr
  intro a hs
  obtain ⟨b1, b2, b3⟩ := freeOk_spec hB
  exact wpAnyD_first2 (R := fun j => ∃ f, waitsFor ops listed i f j = true) hi (Region.noSelect_spec b1) (fun c a w => hQ c a _ _ w) (fun j oj ⟨f, hf⟩ hj => waitsFor_edge hf hj) fuel listed a w (fun j oj hj hji hun hnR => stayOk2_spec hN j oj hj hji hun hnR) (fun j ⟨f, hf⟩ => waitsFor_un hf) (Region.free_spec hi b2) (by simpa using b3) (.inl ⟨hg.wanted hs, fun W hW => hr a _ _ _ _ W hs hW⟩) (hS w hw) (h1 _ (hs.put hd v))
/-- One that is passed by. -/
theorem sd_off2 (i : Nat) (hi : ops[i]? = some ⟨some d, op, ty, pos, after, gd⟩) (hg : GdOk ops l gd false) (hB : freeOk ops listed i = true) (hN : stayOk2 ops listed need i = true)
    (hQ : NoP Q) (hd : Nat.blt d n = true) (hS : ∀ w, Sep w L → S w) (h : SD P ops Q S need fuel (listed.setIfInBounds i true) n ((d, undef) :: l) L) : SD P ops Q S need (fuel + 1) listed n l L := sd_of fun w hw => by
  have h1 := h.to hw
  unfold WD at h1 ⊢
  intro a hs
  obtain ⟨b1, b2, b3⟩ := freeOk_spec hB
  exact wpAnyD_first2 (R := fun j => ∃ f, waitsFor ops listed i f j = true) hi (Region.noSelect_spec b1) (fun c a w => hQ c a _ _ w) (fun j oj ⟨f, hf⟩ hj => waitsFor_edge hf hj) fuel listed a w (fun j oj hj hji hun hnR => stayOk2_spec hN j oj hj hji hun hnR) (fun j ⟨f, hf⟩ => waitsFor_un hf) (Region.free_spec hi b2) (by simpa using b3) (.inr ⟨hg.wanted hs, rfl⟩) (hS w hw) (h1 _ (hs.put hd undef))
end
end
end Go.Proofs.YtocaabnbmcpjmaaGreatDoor
/- More about facts: one out of many, and back. No program is in sight. -/
namespace Go.Proofs.YtocaabnbmcpjmaaGreatDoor
open Go.RowKit
theorem Pick.foot {f : Fa} {L L' : List Fa} (h : Pick f L L') (k : Nat) : foot L k ↔ foot (f :: L') k := by
  constructor
  · rintro ⟨g, hg, hk⟩
    refine ⟨g, ?_, hk⟩
    rcases (h.mem g).1 hg with e | e
    · exact e ▸ List.mem_cons_self ..
    · exact List.mem_cons_of_mem _ e
  · rintro ⟨g, hg, hk⟩
    refine ⟨g, (h.mem g).2 ?_, hk⟩
    rcases List.mem_cons.1 hg with e | e
    · exact .inl e
    · exact .inr e
theorem Pick.back {f : Fa} {L L' : List Fa} (h : Pick f L L') : Ent_ (f :: L') L := by
  induction h with
  | here => exact fun w hw => hw
  | there hp ih => exact fun w hw => Ent_.tail ih (fun k hk => (hp.foot k).1 hk) w (hw.sub (.cons (.there .here) (.cons .here .refl)))
theorem Pick.out {f : Fa} {L L' : List Fa} (h : Pick f L L') : Ent_ L (f :: L') := fun _ hw => hw.pick h
theorem pick_mid {f : Fa} : ∀ (A : List Fa) {B : List Fa}, Pick f (A ++ f :: B) (A ++ B)
  | [], _ => .here
  | _ :: A, _ => .there (pick_mid A)
theorem bytes_at {xs : List Int} {k : Nat} (h : k < xs.length) : nth (bytes xs) k = some (.int .u8 xs[k]) := by
  rw [nth_eq]
  simp [bytes, h]
theorem IsBytes.set {xs : List Int} (h : IsBytes xs) (k : Nat) {v : Int} (h0 : 0 ≤ v) (h1 : v < 256) : IsBytes (xs.set k v) := fun x hx => by
  rcases List.mem_or_eq_of_mem_set hx with e | e
  · exact h x e
  · subst e
    exact ⟨h0, h1⟩
section
variable {P : Program} {ops : Array Oper} {Q : Exit → Act → World → Prop} {n : Nat} {l : Env} {rest : List Oper} {ty : TypeId} {pos : String} {after : Array Edge} {v : Value} {op : Op} {w w' : World}
end
end Go.Proofs.YtocaabnbmcpjmaaGreatDoor
