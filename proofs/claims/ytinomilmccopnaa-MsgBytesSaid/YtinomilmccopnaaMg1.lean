/- Messages over facts: what they are, whether they are small. -/
import Derived.Test.YtinomilmccopnaaPw
import Derived.Test.YtinomilmccopnaaOs
import Derived.Test.YtinomilmccopnaaMgd
namespace Go.Proofs.Ytinomilmccopnaa
open Go.RowKit
attribute [local irreducible] Go.Calls Go.Exit.then Go.Exit.inBlock Go.bodyPost Go.Code.wp Go.wpList

/-- An entry, with where its bytes lie: of the bytes fp the first n are its own. -/
structure En where
  id : Id
  t : Int
  A : Option Addr
  n : Nat
  c : Nat
  fp : List Int
  B : Option Addr
  m : Nat
  d : Nat
  fs : List Int
  code : Int
  tb : 0 ≤ t ∧ t ≤ 18446744073709551615
  cb : -9223372036854775808 ≤ code ∧ code ≤ 9223372036854775807
  nl : n ≤ fp.length
  ml : m ≤ fs.length
  pb : IsBytes fp
  sb : IsBytes fs
def En.pub (e : En) : List Int := e.fp.take e.n
def En.sh (e : En) : List Int := e.fs.take e.m
def En.ab (e : En) : Ent := ⟨e.id.l, e.t, e.pub, e.sh, e.code⟩
def En.cells (e : En) : List Value := bytes e.id.l ++ [.int .u64 e.t, .slice e.A e.n e.c, .slice e.B e.m e.d, .int .i64 e.code]
abbrev En.v (e : En) : Value := .agg e.cells.toArray
theorem En.len (e : En) : e.cells.length = 20 := by simp [En.cells, bytes, e.id.len]
theorem En.one (e : En) : ∀ v ∈ e.cells, v.oneCell' = true := by
  intro v hv
  rcases List.mem_append.1 hv with h | h
  · exact one_bytes _ v h
  · simp at h
    rcases h with h | h | h | h <;> subst h <;> rfl
theorem En.pl (e : En) : e.pub.length = e.n := by have := e.nl; simp [En.pub]; omega
theorem En.sl (e : En) : e.sh.length = e.m := by have := e.ml; simp [En.sh]; omega
section
variable (e : En)
theorem En.nt : nth e.cells 16 = some (.int .u64 e.t) := by
  rw [nth_eq, En.cells, List.getElem?_append_right (by simp [bytes, e.id.len])]
  simp [bytes, e.id.len]
theorem En.np : nth e.cells 17 = some (.slice e.A e.n e.c) := by
  rw [nth_eq, En.cells, List.getElem?_append_right (by simp [bytes, e.id.len])]
  simp [bytes, e.id.len]
theorem En.ns : nth e.cells 18 = some (.slice e.B e.m e.d) := by
  rw [nth_eq, En.cells, List.getElem?_append_right (by simp [bytes, e.id.len])]
  simp [bytes, e.id.len]
theorem En.nc : nth e.cells 19 = some (.int .i64 e.code) := by
  rw [nth_eq, En.cells, List.getElem?_append_right (by simp [bytes, e.id.len])]
  simp [bytes, e.id.len]
theorem En.mid : Mid e.cells 0 (bytes e.id.l) := Mid.head
end
/-- Its bytes as they read. -/
def EnR (w : World) (e : En) : Prop := Reads w 1 e.A e.n (bytes e.pub) ∧ Reads w 1 e.B e.m (bytes e.sh)
def EnsR (w : World) (A : Option Addr) (es : List En) : Prop := Reads w 20 A es.length (rows En.cells es) ∧ ∀ e ∈ es, EnR w e

/-- A message, with where its entries lie. -/
structure Me where
  kind : Int
  job : Int
  start : Int
  many : Int
  sum : Id
  code : Int
  A : Option Addr
  c : Nat
  es : List En
  kb : 0 ≤ kind ∧ kind ≤ 255
  jb : 0 ≤ job ∧ job ≤ 18446744073709551615
  stb : 0 ≤ start ∧ start ≤ 18446744073709551615
  mb : -9223372036854775808 ≤ many ∧ many ≤ 9223372036854775807
  cb : -9223372036854775808 ≤ code ∧ code ≤ 9223372036854775807
def mcs (kind job start many : Int) (sum : List Int) (code : Int) (A : Option Addr) (n c : Nat) : List Value := [.int .u8 kind, .int .u64 job, .int .u64 start, .int .i64 many] ++ bytes sum ++ [.int .i64 code, .slice A n c]
def Me.cells (m : Me) : List Value := mcs m.kind m.job m.start m.many m.sum.l m.code m.A m.es.length m.c
abbrev Me.v (m : Me) : Value := .agg m.cells.toArray
def Me.ab (m : Me) : Msg := ⟨m.kind, m.job, m.start, m.many, m.sum.l, m.code, m.es.map En.ab⟩
theorem mcs_len {kind job start many : Int} {sum : List Int} {code : Int} {A : Option Addr} {n c : Nat} (h : sum.length = 16) : (mcs kind job start many sum code A n c).length = 22 := by simp [mcs, bytes, h]
theorem Me.len (m : Me) : m.cells.length = 22 := mcs_len m.sum.len
theorem mcs_one {kind job start many : Int} {sum : List Int} {code : Int} {A : Option Addr} {n c : Nat} : ∀ v ∈ mcs kind job start many sum code A n c, v.oneCell' = true := by
  intro v hv
  rcases List.mem_append.1 hv with h | h
  · rcases List.mem_append.1 h with h | h
    · simp at h
      rcases h with h | h | h | h <;> subst h <;> rfl
    · exact one_bytes _ v h
  · simp at h
    rcases h with h | h <;> subst h <;> rfl
theorem Me.one (m : Me) : ∀ v ∈ m.cells, v.oneCell' = true := mcs_one
section
variable {kind job start many : Int} {sum : Id} {code : Int} {A : Option Addr} {n c : Nat}
theorem mcs_4 : nth (mcs kind job start many sum.l code A n c) 20 = some (.int .i64 code) := by
  rw [nth_eq, mcs, List.getElem?_append_right (by simp [bytes, sum.len])]
  simp [bytes, sum.len]
theorem mcs_5 : nth (mcs kind job start many sum.l code A n c) 21 = some (.slice A n c) := by
  rw [nth_eq, mcs, List.getElem?_append_right (by simp [bytes, sum.len])]
  simp [bytes, sum.len]
theorem mcs_mid : Mid (mcs kind job start many sum.l code A n c) 4 (bytes sum.l) := Mid.of_append rfl
end
section
variable (m : Me)
theorem Me.nd : nth m.cells 20 = some (.int .i64 m.code) := mcs_4
theorem Me.ne : nth m.cells 21 = some (.slice m.A m.es.length m.c) := mcs_5
theorem Me.mid : Mid m.cells 4 (bytes m.sum.l) := mcs_mid
end
abbrev msgB (g : Nat) (m : Me) : Fa := blk g 48 m.cells
/-- What it reads. -/
abbrev MeV (K : List Fa) (m : Me) : Prop := Vw K (fun w => EnsR w m.A m.es)
theorem MeV.row {K : List Fa} {m : Me} (h : MeV K m) : Vw K (fun w => Reads w 20 m.A m.es.length (rows En.cells m.es)) := fun w hw => (h w hw).1
theorem MeV.ent {K : List Fa} {m : Me} (h : MeV K m) {e : En} (he : e ∈ m.es) : Vw K (fun w => EnR w e) := fun w hw => (h w hw).2 e he

/-! small -/
structure Sg where
  j : Nat
  n : Int
set_option maxRecDepth 100000 in
set_option maxHeartbeats 2000000 in
theorem small_ok {K : List Fa} {m : Me} (hr : MeV K m) (hn : m.es.length ≤ 1000000000000000) :
    Fn Try.prog 38 #[m.v] K (Ret (fun _ : Bool => True) (fun b => .bool b) (fun _ => K)) := by
  refine fn_enter Try.func38 rfl _ Try.ntmps38 (by simp) [(0, m.v)] (args_of (by simp)) ?_
  (repeat (first | (first | refine sl_pu (PuI.sep ((by (constructor; (repeat (first | rfl | exact .t | exact .f | exact .t (by omega) | exact .f (by omega) | exact .u | exact .i (by (first | exact .t (by omega) | exact .f (by omega) | exact .u | exact .i (by omega) | exact .v (by omega) | exact .b (by omega) | exact .w | rfl | omega)) | exact .v (by omega) | exact .b (by omega) | exact .w | exact .b (by ((repeat (first | exact At.here | assumption | refine At.there ?_)); first | done | fail)) rfl (by (first | rfl | first | exact En.nt _ | exact En.np _ | exact En.ns _ | exact En.nc _ | exact Me.ne _ | exact Me.nd _)) | exact .w (by ((repeat (first | exact At.here | assumption | refine At.there ?_)); first | done | fail)) rfl rfl (by (first | rfl | (first | (simp only [En.len, Me.len, bytes_length, Id.len]; rfl) | simp only [En.len, Me.len, bytes_length, Id.len]; first | done | fail))) | exact .s (by ((repeat (first | exact At.here | assumption | refine At.there ?_)); first | done | fail)) (by (first | first | exact En.mid _ | exact Me.mid _ | exact Mid.all | exact Mid.head)) rfl rfl (by (first | rfl | (first | (simp only [En.len, Me.len, bytes_length, Id.len]; rfl) | simp only [En.len, Me.len, bytes_length, Id.len]; first | done | fail))) | exact .z rfl rfl ⟨by kernel_rfl⟩ | exact .b rfl rfl ⟨by kernel_rfl⟩ | exact .a rfl rfl ⟨by kernel_rfl⟩ | exact .o rfl | exact .s | exact .n | exact .p rfl | exact .q rfl | exact .c rfl | exact .d rfl | exact .n rfl rfl (by omega) | exact .a rfl rfl (by omega) | exact .p rfl rfl (by omega) (by omega) | exact .r rfl rfl | exact .h rfl rfl rfl (by omega) | exact .l rfl rfl rfl (by omega) (by omega) | exact .g rfl rfl rfl rfl (by omega) (by omega) | exact .o (by decide) | exact .f (by decide) | exact .n (by omega) (by first | decide | (show _ ≤ ((64 : Nat) : Int); omega)) | (constructor; (repeat (first | exact .t (by omega) | exact .f (by omega) | exact .u | exact .i (by omega) | exact .v (by omega) | exact .b (by omega) | exact .w | rfl | omega)); first | done | fail) | omega | (show _ ≤ ((64 : Nat) : Int); omega))); first | done | fail)))) rfl ?_ | refine sl_yes rfl rfl ?_ | refine sl_no rfl rfl rfl ?_ | refine sl_off rfl rfl rfl ?_) | (first | refine sc_seq ?_ | refine sc_region ?_ | refine sl_nil ?_ | refine se_seq ?_ | refine sc_cond rfl (by constructor) ?_ | refine sc_skip ?_ | refine sc_block ?_ | refine se_blk (by first | exact .n | exact .h | exact .m rfl | exact .r | exact .p) ?_ | refine sc_exit ?_ | refine se_pass (by constructor) ?_ | refine sc_ret ?_) | ((first | refine sl_store rfl (by ((repeat (first | exact Pick.here | apply Pick.there)); first | done | fail)) rfl rfl (by kernel_rfl) (by (first | (fail) | ((repeat (first | exact SetAt.here | apply SetAt.there)); first | done | fail))) ?_ | refine sl_store_whole rfl (by ((repeat (first | exact Pick.here | apply Pick.there)); first | done | fail)) rfl (by (first | rfl | (first | (simp only [En.len, Me.len, bytes_length, Id.len]; rfl) | simp only [En.len, Me.len, bytes_length, Id.len]; first | done | fail))) (by (first | rfl | (first | (simp only [En.len, Me.len, bytes_length, Id.len]; rfl) | simp only [En.len, Me.len, bytes_length, Id.len]; first | done | fail))) (by (first | assumption | exact first | exact En.one _ | exact Me.one _ | (simp only [List.mem_cons, List.not_mem_nil, or_false, forall_eq_or_imp, forall_eq]; decide) | exact one_bytes _)) ?_))))
  refine sl_box rfl rfl rfl ?_; intro g
  (repeat (first | (first | refine sl_pu (PuI.sep ((by (constructor; (repeat (first | rfl | exact .t | exact .f | exact .t (by omega) | exact .f (by omega) | exact .u | exact .i (by (first | exact .t (by omega) | exact .f (by omega) | exact .u | exact .i (by omega) | exact .v (by omega) | exact .b (by omega) | exact .w | rfl | omega)) | exact .v (by omega) | exact .b (by omega) | exact .w | exact .b (by ((repeat (first | exact At.here | assumption | refine At.there ?_)); first | done | fail)) rfl (by (first | rfl | first | exact En.nt _ | exact En.np _ | exact En.ns _ | exact En.nc _ | exact Me.ne _ | exact Me.nd _)) | exact .w (by ((repeat (first | exact At.here | assumption | refine At.there ?_)); first | done | fail)) rfl rfl (by (first | rfl | (first | (simp only [En.len, Me.len, bytes_length, Id.len]; rfl) | simp only [En.len, Me.len, bytes_length, Id.len]; first | done | fail))) | exact .s (by ((repeat (first | exact At.here | assumption | refine At.there ?_)); first | done | fail)) (by (first | first | exact En.mid _ | exact Me.mid _ | exact Mid.all | exact Mid.head)) rfl rfl (by (first | rfl | (first | (simp only [En.len, Me.len, bytes_length, Id.len]; rfl) | simp only [En.len, Me.len, bytes_length, Id.len]; first | done | fail))) | exact .z rfl rfl ⟨by kernel_rfl⟩ | exact .b rfl rfl ⟨by kernel_rfl⟩ | exact .a rfl rfl ⟨by kernel_rfl⟩ | exact .o rfl | exact .s | exact .n | exact .p rfl | exact .q rfl | exact .c rfl | exact .d rfl | exact .n rfl rfl (by omega) | exact .a rfl rfl (by omega) | exact .p rfl rfl (by omega) (by omega) | exact .r rfl rfl | exact .h rfl rfl rfl (by omega) | exact .l rfl rfl rfl (by omega) (by omega) | exact .g rfl rfl rfl rfl (by omega) (by omega) | exact .o (by decide) | exact .f (by decide) | exact .n (by omega) (by first | decide | (show _ ≤ ((64 : Nat) : Int); omega)) | (constructor; (repeat (first | exact .t (by omega) | exact .f (by omega) | exact .u | exact .i (by omega) | exact .v (by omega) | exact .b (by omega) | exact .w | rfl | omega)); first | done | fail) | omega | (show _ ≤ ((64 : Nat) : Int); omega))); first | done | fail)))) rfl ?_ | refine sl_yes rfl rfl ?_ | refine sl_no rfl rfl rfl ?_ | refine sl_off rfl rfl rfl ?_) | (first | refine sc_seq ?_ | refine sc_region ?_ | refine sl_nil ?_ | refine se_seq ?_ | refine sc_cond rfl (by constructor) ?_ | refine sc_skip ?_ | refine sc_block ?_ | refine se_blk (by first | exact .n | exact .h | exact .m rfl | exact .r | exact .p) ?_ | refine sc_exit ?_ | refine se_pass (by constructor) ?_ | refine sc_ret ?_) | ((first | refine sl_store rfl (by ((repeat (first | exact Pick.here | apply Pick.there)); first | done | fail)) rfl rfl (by kernel_rfl) (by (first | (fail) | ((repeat (first | exact SetAt.here | apply SetAt.there)); first | done | fail))) ?_ | refine sl_store_whole rfl (by ((repeat (first | exact Pick.here | apply Pick.there)); first | done | fail)) rfl (by (first | rfl | (first | (simp only [En.len, Me.len, bytes_length, Id.len]; rfl) | simp only [En.len, Me.len, bytes_length, Id.len]; first | done | fail))) (by (first | rfl | (first | (simp only [En.len, Me.len, bytes_length, Id.len]; rfl) | simp only [En.len, Me.len, bytes_length, Id.len]; first | done | fail))) (by (first | assumption | exact first | exact En.one _ | exact Me.one _ | (simp only [List.mem_cons, List.not_mem_nil, or_false, forall_eq_or_imp, forall_eq]; decide) | exact one_bytes _)) ?_))))
  refine sc_bjoin (fun q : Sg => [(3, .int .i64 q.n)]) (fun _ => msgB g m :: K) (fun _ => True) ?_ ?_
  · refine sc_for (fun q : Sg => [(3, .int .i64 q.n), (10, .slice m.A m.es.length m.c), (11, .int .i64 m.es.length), (12, .int .i64 q.j)]) (fun _ => msgB g m :: K) (fun q => q.j ≤ m.es.length) (fun q => m.es.length - q.j) ⟨0, _⟩ (by ((repeat (first | exact has_nil | refine has_cons rfl ?_)); first | done | fail)) (by ((repeat (first | exact Sub.refl | exact Sub.nil | (apply Sub.cons; (repeat (first | exact Pick.here | apply Pick.there)); show Sub _ _) | apply Sub.skip)); first | done | fail)) (Nat.zero_le _) ?_
    rintro ⟨j, n⟩ hj
    dsimp only at hj ⊢
    by_cases hlt : j < m.es.length
    · obtain ⟨e, he⟩ : ∃ e, m.es[j]? = some e := ⟨_, List.getElem?_eq_getElem hlt⟩
      refine sc_know (vw_form (hr.row.mono (by ((repeat (first | exact Sub.refl | exact Sub.nil | (apply Sub.cons; (repeat (first | exact Pick.here | apply Pick.there)); show Sub _ _) | apply Sub.skip)); first | done | fail))) (by omega)) ?_
      rintro ⟨ad, hA⟩
      have hrow := hr.row
      rw [hA] at hrow ⊢
      (repeat (first | (first | refine sl_pu (PuI.sep ((by (constructor; (repeat (first | rfl | exact .t | exact .f | exact .t (by omega) | exact .f (by omega) | exact .u | exact .i (by (first | exact .t (by omega) | exact .f (by omega) | exact .u | exact .i (by omega) | exact .v (by omega) | exact .b (by omega) | exact .w | rfl | omega)) | exact .v (by omega) | exact .b (by omega) | exact .w | exact .b (by ((repeat (first | exact At.here | assumption | refine At.there ?_)); first | done | fail)) rfl (by (first | rfl | first | exact En.nt _ | exact En.np _ | exact En.ns _ | exact En.nc _ | exact Me.ne _ | exact Me.nd _)) | exact .w (by ((repeat (first | exact At.here | assumption | refine At.there ?_)); first | done | fail)) rfl rfl (by (first | rfl | (first | (simp only [En.len, Me.len, bytes_length, Id.len]; rfl) | simp only [En.len, Me.len, bytes_length, Id.len]; first | done | fail))) | exact .s (by ((repeat (first | exact At.here | assumption | refine At.there ?_)); first | done | fail)) (by (first | first | exact En.mid _ | exact Me.mid _ | exact Mid.all | exact Mid.head)) rfl rfl (by (first | rfl | (first | (simp only [En.len, Me.len, bytes_length, Id.len]; rfl) | simp only [En.len, Me.len, bytes_length, Id.len]; first | done | fail))) | exact .z rfl rfl ⟨by kernel_rfl⟩ | exact .b rfl rfl ⟨by kernel_rfl⟩ | exact .a rfl rfl ⟨by kernel_rfl⟩ | exact .o rfl | exact .s | exact .n | exact .p rfl | exact .q rfl | exact .c rfl | exact .d rfl | exact .n rfl rfl (by omega) | exact .a rfl rfl (by omega) | exact .p rfl rfl (by omega) (by omega) | exact .r rfl rfl | exact .h rfl rfl rfl (by omega) | exact .l rfl rfl rfl (by omega) (by omega) | exact .g rfl rfl rfl rfl (by omega) (by omega) | exact .o (by decide) | exact .f (by decide) | exact .n (by omega) (by first | decide | (show _ ≤ ((64 : Nat) : Int); omega)) | (constructor; (repeat (first | exact .t (by omega) | exact .f (by omega) | exact .u | exact .i (by omega) | exact .v (by omega) | exact .b (by omega) | exact .w | rfl | omega)); first | done | fail) | omega | (show _ ≤ ((64 : Nat) : Int); omega))); first | done | fail)))) rfl ?_ | refine sl_yes rfl rfl ?_ | refine sl_no rfl rfl rfl ?_ | refine sl_off rfl rfl rfl ?_) | (first | refine sc_seq ?_ | refine sc_region ?_ | refine sl_nil ?_ | refine se_seq ?_ | refine sc_cond rfl (by constructor) ?_ | refine sc_skip ?_ | refine sc_block ?_ | refine se_blk (by first | exact .n | exact .h | exact .m rfl | exact .r | exact .p) ?_ | refine sc_exit ?_ | refine se_pass (by constructor) ?_ | refine sc_ret ?_) | ((first | refine sl_store rfl (by ((repeat (first | exact Pick.here | apply Pick.there)); first | done | fail)) rfl rfl (by kernel_rfl) (by (first | (fail) | ((repeat (first | exact SetAt.here | apply SetAt.there)); first | done | fail))) ?_ | refine sl_store_whole rfl (by ((repeat (first | exact Pick.here | apply Pick.there)); first | done | fail)) rfl (by (first | rfl | (first | (simp only [En.len, Me.len, bytes_length, Id.len]; rfl) | simp only [En.len, Me.len, bytes_length, Id.len]; first | done | fail))) (by (first | rfl | (first | (simp only [En.len, Me.len, bytes_length, Id.len]; rfl) | simp only [En.len, Me.len, bytes_length, Id.len]; first | done | fail))) (by (first | assumption | exact first | exact En.one _ | exact Me.one _ | (simp only [List.mem_cons, List.not_mem_nil, or_false, forall_eq_or_imp, forall_eq]; decide) | exact one_bytes _)) ?_))))
      refine sl_pu (pu_ldrs (hrow.mono (by ((repeat (first | exact Sub.refl | exact Sub.nil | (apply Sub.cons; (repeat (first | exact Pick.here | apply Pick.there)); show Sub _ _) | apply Sub.skip)); first | done | fail))) (by omega) rfl (rows_mid En.len he) rfl rfl (by (first | rfl | (first | (simp only [En.len, Me.len, bytes_length, Id.len]; rfl) | simp only [En.len, Me.len, bytes_length, Id.len]; first | done | fail)))) rfl ?_
      refine sl_alloc rfl rfl rfl ?_; intro ge
      (repeat (first | (first | refine sl_pu (PuI.sep ((by (constructor; (repeat (first | rfl | exact .t | exact .f | exact .t (by omega) | exact .f (by omega) | exact .u | exact .i (by (first | exact .t (by omega) | exact .f (by omega) | exact .u | exact .i (by omega) | exact .v (by omega) | exact .b (by omega) | exact .w | rfl | omega)) | exact .v (by omega) | exact .b (by omega) | exact .w | exact .b (by ((repeat (first | exact At.here | assumption | refine At.there ?_)); first | done | fail)) rfl (by (first | rfl | first | exact En.nt _ | exact En.np _ | exact En.ns _ | exact En.nc _ | exact Me.ne _ | exact Me.nd _)) | exact .w (by ((repeat (first | exact At.here | assumption | refine At.there ?_)); first | done | fail)) rfl rfl (by (first | rfl | (first | (simp only [En.len, Me.len, bytes_length, Id.len]; rfl) | simp only [En.len, Me.len, bytes_length, Id.len]; first | done | fail))) | exact .s (by ((repeat (first | exact At.here | assumption | refine At.there ?_)); first | done | fail)) (by (first | first | exact En.mid _ | exact Me.mid _ | exact Mid.all | exact Mid.head)) rfl rfl (by (first | rfl | (first | (simp only [En.len, Me.len, bytes_length, Id.len]; rfl) | simp only [En.len, Me.len, bytes_length, Id.len]; first | done | fail))) | exact .z rfl rfl ⟨by kernel_rfl⟩ | exact .b rfl rfl ⟨by kernel_rfl⟩ | exact .a rfl rfl ⟨by kernel_rfl⟩ | exact .o rfl | exact .s | exact .n | exact .p rfl | exact .q rfl | exact .c rfl | exact .d rfl | exact .n rfl rfl (by omega) | exact .a rfl rfl (by omega) | exact .p rfl rfl (by omega) (by omega) | exact .r rfl rfl | exact .h rfl rfl rfl (by omega) | exact .l rfl rfl rfl (by omega) (by omega) | exact .g rfl rfl rfl rfl (by omega) (by omega) | exact .o (by decide) | exact .f (by decide) | exact .n (by omega) (by first | decide | (show _ ≤ ((64 : Nat) : Int); omega)) | (constructor; (repeat (first | exact .t (by omega) | exact .f (by omega) | exact .u | exact .i (by omega) | exact .v (by omega) | exact .b (by omega) | exact .w | rfl | omega)); first | done | fail) | omega | (show _ ≤ ((64 : Nat) : Int); omega))); first | done | fail)))) rfl ?_ | refine sl_yes rfl rfl ?_ | refine sl_no rfl rfl rfl ?_ | refine sl_off rfl rfl rfl ?_) | (first | refine sc_seq ?_ | refine sc_region ?_ | refine sl_nil ?_ | refine se_seq ?_ | refine sc_cond rfl (by constructor) ?_ | refine sc_skip ?_ | refine sc_block ?_ | refine se_blk (by first | exact .n | exact .h | exact .m rfl | exact .r | exact .p) ?_ | refine sc_exit ?_ | refine se_pass (by constructor) ?_ | refine sc_ret ?_) | ((first | refine sl_store rfl (by ((repeat (first | exact Pick.here | apply Pick.there)); first | done | fail)) rfl rfl (by kernel_rfl) (by (first | (fail) | ((repeat (first | exact SetAt.here | apply SetAt.there)); first | done | fail))) ?_ | refine sl_store_whole rfl (by ((repeat (first | exact Pick.here | apply Pick.there)); first | done | fail)) rfl (by (first | rfl | (first | (simp only [En.len, Me.len, bytes_length, Id.len]; rfl) | simp only [En.len, Me.len, bytes_length, Id.len]; first | done | fail))) (by (first | rfl | (first | (simp only [En.len, Me.len, bytes_length, Id.len]; rfl) | simp only [En.len, Me.len, bytes_length, Id.len]; first | done | fail))) (by (first | assumption | exact first | exact En.one _ | exact Me.one _ | (simp only [List.mem_cons, List.not_mem_nil, or_false, forall_eq_or_imp, forall_eq]; decide) | exact one_bytes _)) ?_))))
      exact se_round ⟨j + 1, _⟩ (by ((repeat (first | exact has_nil | refine has_cons rfl ?_)); first | done | fail)) (by ((repeat (first | exact Sub.refl | exact Sub.nil | (apply Sub.cons; (repeat (first | exact Pick.here | apply Pick.there)); show Sub _ _) | apply Sub.skip)); first | done | fail)) hlt (by dsimp only; omega)
    · (repeat (first | (first | refine sl_pu (PuI.sep ((by (constructor; (repeat (first | rfl | exact .t | exact .f | exact .t (by omega) | exact .f (by omega) | exact .u | exact .i (by (first | exact .t (by omega) | exact .f (by omega) | exact .u | exact .i (by omega) | exact .v (by omega) | exact .b (by omega) | exact .w | rfl | omega)) | exact .v (by omega) | exact .b (by omega) | exact .w | exact .b (by ((repeat (first | exact At.here | assumption | refine At.there ?_)); first | done | fail)) rfl (by (first | rfl | first | exact En.nt _ | exact En.np _ | exact En.ns _ | exact En.nc _ | exact Me.ne _ | exact Me.nd _)) | exact .w (by ((repeat (first | exact At.here | assumption | refine At.there ?_)); first | done | fail)) rfl rfl (by (first | rfl | (first | (simp only [En.len, Me.len, bytes_length, Id.len]; rfl) | simp only [En.len, Me.len, bytes_length, Id.len]; first | done | fail))) | exact .s (by ((repeat (first | exact At.here | assumption | refine At.there ?_)); first | done | fail)) (by (first | first | exact En.mid _ | exact Me.mid _ | exact Mid.all | exact Mid.head)) rfl rfl (by (first | rfl | (first | (simp only [En.len, Me.len, bytes_length, Id.len]; rfl) | simp only [En.len, Me.len, bytes_length, Id.len]; first | done | fail))) | exact .z rfl rfl ⟨by kernel_rfl⟩ | exact .b rfl rfl ⟨by kernel_rfl⟩ | exact .a rfl rfl ⟨by kernel_rfl⟩ | exact .o rfl | exact .s | exact .n | exact .p rfl | exact .q rfl | exact .c rfl | exact .d rfl | exact .n rfl rfl (by omega) | exact .a rfl rfl (by omega) | exact .p rfl rfl (by omega) (by omega) | exact .r rfl rfl | exact .h rfl rfl rfl (by omega) | exact .l rfl rfl rfl (by omega) (by omega) | exact .g rfl rfl rfl rfl (by omega) (by omega) | exact .o (by decide) | exact .f (by decide) | exact .n (by omega) (by first | decide | (show _ ≤ ((64 : Nat) : Int); omega)) | (constructor; (repeat (first | exact .t (by omega) | exact .f (by omega) | exact .u | exact .i (by omega) | exact .v (by omega) | exact .b (by omega) | exact .w | rfl | omega)); first | done | fail) | omega | (show _ ≤ ((64 : Nat) : Int); omega))); first | done | fail)))) rfl ?_ | refine sl_yes rfl rfl ?_ | refine sl_no rfl rfl rfl ?_ | refine sl_off rfl rfl rfl ?_) | (first | refine sc_seq ?_ | refine sc_region ?_ | refine sl_nil ?_ | refine se_seq ?_ | refine sc_cond rfl (by constructor) ?_ | refine sc_skip ?_ | refine sc_block ?_ | refine se_blk (by first | exact .n | exact .h | exact .m rfl | exact .r | exact .p) ?_ | refine sc_exit ?_ | refine se_pass (by constructor) ?_ | refine sc_ret ?_) | ((first | refine sl_store rfl (by ((repeat (first | exact Pick.here | apply Pick.there)); first | done | fail)) rfl rfl (by kernel_rfl) (by (first | (fail) | ((repeat (first | exact SetAt.here | apply SetAt.there)); first | done | fail))) ?_ | refine sl_store_whole rfl (by ((repeat (first | exact Pick.here | apply Pick.there)); first | done | fail)) rfl (by (first | rfl | (first | (simp only [En.len, Me.len, bytes_length, Id.len]; rfl) | simp only [En.len, Me.len, bytes_length, Id.len]; first | done | fail))) (by (first | rfl | (first | (simp only [En.len, Me.len, bytes_length, Id.len]; rfl) | simp only [En.len, Me.len, bytes_length, Id.len]; first | done | fail))) (by (first | assumption | exact first | exact En.one _ | exact Me.one _ | (simp only [List.mem_cons, List.not_mem_nil, or_false, forall_eq_or_imp, forall_eq]; decide) | exact one_bytes _)) ?_))))
      exact se_mid ⟨j, n⟩ (by ((repeat (first | exact has_nil | refine has_cons rfl ?_)); first | done | fail)) (by ((repeat (first | exact Sub.refl | exact Sub.nil | (apply Sub.cons; (repeat (first | exact Pick.here | apply Pick.there)); show Sub _ _) | apply Sub.skip)); first | done | fail)) trivial
  rintro ⟨j, n⟩ -
  dsimp only
  (repeat (first | (first | refine sl_pu (PuI.sep ((by (constructor; (repeat (first | rfl | exact .t | exact .f | exact .t (by omega) | exact .f (by omega) | exact .u | exact .i (by (first | exact .t (by omega) | exact .f (by omega) | exact .u | exact .i (by omega) | exact .v (by omega) | exact .b (by omega) | exact .w | rfl | omega)) | exact .v (by omega) | exact .b (by omega) | exact .w | exact .b (by ((repeat (first | exact At.here | assumption | refine At.there ?_)); first | done | fail)) rfl (by (first | rfl | first | exact En.nt _ | exact En.np _ | exact En.ns _ | exact En.nc _ | exact Me.ne _ | exact Me.nd _)) | exact .w (by ((repeat (first | exact At.here | assumption | refine At.there ?_)); first | done | fail)) rfl rfl (by (first | rfl | (first | (simp only [En.len, Me.len, bytes_length, Id.len]; rfl) | simp only [En.len, Me.len, bytes_length, Id.len]; first | done | fail))) | exact .s (by ((repeat (first | exact At.here | assumption | refine At.there ?_)); first | done | fail)) (by (first | first | exact En.mid _ | exact Me.mid _ | exact Mid.all | exact Mid.head)) rfl rfl (by (first | rfl | (first | (simp only [En.len, Me.len, bytes_length, Id.len]; rfl) | simp only [En.len, Me.len, bytes_length, Id.len]; first | done | fail))) | exact .z rfl rfl ⟨by kernel_rfl⟩ | exact .b rfl rfl ⟨by kernel_rfl⟩ | exact .a rfl rfl ⟨by kernel_rfl⟩ | exact .o rfl | exact .s | exact .n | exact .p rfl | exact .q rfl | exact .c rfl | exact .d rfl | exact .n rfl rfl (by omega) | exact .a rfl rfl (by omega) | exact .p rfl rfl (by omega) (by omega) | exact .r rfl rfl | exact .h rfl rfl rfl (by omega) | exact .l rfl rfl rfl (by omega) (by omega) | exact .g rfl rfl rfl rfl (by omega) (by omega) | exact .o (by decide) | exact .f (by decide) | exact .n (by omega) (by first | decide | (show _ ≤ ((64 : Nat) : Int); omega)) | (constructor; (repeat (first | exact .t (by omega) | exact .f (by omega) | exact .u | exact .i (by omega) | exact .v (by omega) | exact .b (by omega) | exact .w | rfl | omega)); first | done | fail) | omega | (show _ ≤ ((64 : Nat) : Int); omega))); first | done | fail)))) rfl ?_ | refine sl_yes rfl rfl ?_ | refine sl_no rfl rfl rfl ?_ | refine sl_off rfl rfl rfl ?_) | (first | refine sc_seq ?_ | refine sc_region ?_ | refine sl_nil ?_ | refine se_seq ?_ | refine sc_cond rfl (by constructor) ?_ | refine sc_skip ?_ | refine sc_block ?_ | refine se_blk (by first | exact .n | exact .h | exact .m rfl | exact .r | exact .p) ?_ | refine sc_exit ?_ | refine se_pass (by constructor) ?_ | refine sc_ret ?_) | ((first | refine sl_store rfl (by ((repeat (first | exact Pick.here | apply Pick.there)); first | done | fail)) rfl rfl (by kernel_rfl) (by (first | (fail) | ((repeat (first | exact SetAt.here | apply SetAt.there)); first | done | fail))) ?_ | refine sl_store_whole rfl (by ((repeat (first | exact Pick.here | apply Pick.there)); first | done | fail)) rfl (by (first | rfl | (first | (simp only [En.len, Me.len, bytes_length, Id.len]; rfl) | simp only [En.len, Me.len, bytes_length, Id.len]; first | done | fail))) (by (first | rfl | (first | (simp only [En.len, Me.len, bytes_length, Id.len]; rfl) | simp only [En.len, Me.len, bytes_length, Id.len]; first | done | fail))) (by (first | assumption | exact first | exact En.one _ | exact Me.one _ | (simp only [List.mem_cons, List.not_mem_nil, or_false, forall_eq_or_imp, forall_eq]; decide) | exact one_bytes _)) ?_))))
  exact se_ret1 _ trivial rfl rfl (by ((repeat (first | exact Sub.refl | exact Sub.nil | (apply Sub.cons; (repeat (first | exact Pick.here | apply Pick.there)); show Sub _ _) | apply Sub.skip)); first | done | fail))
end Go.Proofs.Ytinomilmccopnaa
