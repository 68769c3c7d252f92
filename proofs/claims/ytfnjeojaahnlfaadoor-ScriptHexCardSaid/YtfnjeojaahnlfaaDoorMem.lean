/- Words that many proofs of this seat share: bytes, what a struct with one row owns. -/
import Derived.Test.YtfnjeojaahnlfaaDoorRows
import Derived.Test.YtfnjeojaahnlfaaDoorBase
namespace Go.Proofs.YtfnjeojaahnlfaaDoor
open Go.RowKit

theorem ret_bool {a b : Bool} (h : a = b) : Ending.returned (.bool a) = .returned (.bool b) := by rw [h]


theorem Tryd.info5 : (Tryd.prog.info? 5).map (fun i => (i.zero, i.size, i.bytes)) = some (some (.int .u8 0), 1, 1) := by kernel_rfl

def bytes (bs : List Int) : List Value := bs.map (Value.int .u8)

theorem one_bytes (l : List Int) : ∀ u ∈ bytes l, u.oneCell' = true := by
  intro u hu
  obtain ⟨n, _, rfl⟩ := List.mem_map.1 hu
  rfl

/-- What belongs to a struct at block b with a slice of its own in it: its block, its row. -/
def NetS (b : Nat) (v : Value) : Nat → Prop := fun k => k = b ∨ v.ownBlock = some k
/-- A row's block is the one it was, or a new one. -/
def Moved (w : World) (v v' : Value) : Prop := ∀ g, v'.ownBlock = some g → v.ownBlock = some g ∨ w.heap.size ≤ g


theorem own_of_blockOf {A : Option Addr} {m cap g : Nat} (h : blockOf A = some g) : (Value.slice A m cap).ownBlock = some g := by
  cases A with
  | none => cases h
  | some ad => exact h


theorem Moved.of_size {w w1 : World} {v v' : Value} (h : Moved w1 v v') (hs : w.heap.size ≤ w1.heap.size) : Moved w v v' := fun g hg => (h g hg).imp id (fun h1 => Nat.le_trans hs h1)

/-- A row of bytes of the call's own, whatever they are now; only it has turned. -/
def Scr (w0 : World) (v : Value) (n : Nat) (wr : World) : Prop :=
  ∃ xs : List Int, wr.ownsRow 0 5 1 v n (bytes xs) ∧ Fr (fun k => v.ownBlock = some k) w0 wr

theorem scr_set {w0 wr : World} {g n cp k : Nat} {xs : List Int} {z : Int} (h : wr.ownsRow 0 5 1 (.slice (some ⟨g, 0, none⟩) n cp) n (bytes xs)) (hf : Fr (fun k => (Value.slice (some ⟨g, 0, none⟩) n cp).ownBlock = some k) w0 wr) :
    Scr w0 (.slice (some ⟨g, 0, none⟩) n cp) n (wr.setCell ⟨g, k, none⟩ (.int .u8 z)) := by
  have h1 := (h.stored k (.int .u8 z)).1
  refine ⟨xs.set k z, ?_, hf.setCell (p := ⟨g, k, none⟩) (.inr rfl) _⟩
  rw [show bytes (xs.set k z) = (bytes xs).set k (.int .u8 z) from by simp [bytes, List.map_set]]
  exact h1


theorem own_cap {w : World} {base : Nat} {e : TypeId} {size n c : Nat} {A : Option Addr} {xs : List Value} (h : w.ownsRow base e size (.slice A n c) n xs) : n ≤ c ∧ c ≤ maxLen := by
  rcases h.2 with ⟨h1, rfl⟩ | ⟨g', cap, cur, h1, _, _, h2, h3, _⟩
  · injection h1 with _ _ h1
    subst h1
    exact ⟨Nat.le_refl _, by simp [maxLen]⟩
  · injection h1 with _ _ h1
    subst h1
    exact ⟨h2, h3⟩

theorem ret_int {k : IntKind} {a b : Int} (h : a = b) : Ending.returned (.int k a) = .returned (.int k b) := by rw [h]

end Go.Proofs.YtfnjeojaahnlfaaDoor
