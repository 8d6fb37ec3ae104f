/-
  Worlds that keep what they had but for some blocks; blocks by their cells.
-/
import Derived.WalkKit
import Derived.WalkLawsBesides
import Derived.WalkSpells
import Derived.OpenShut
import Derived.BigQuiet
import Derived.Deep.QuietTactic
import Derived.Deep.Draws
import Derived.Laws.Rows
import Derived.Laws.EntriesVeiled
import Derived.Lib.Hide
import Derived.Test.YtcgnficlcgmffaaDraw
import Derived.Test.YtcgnficlcgmffaaModel
namespace Go.Proofs.Ytcgnficlcgmffaa
open Go.RowKit

/-! ### What is kept -/
/-- From w to w' nothing that was there has changed, but the blocks of S. -/
structure Ext (S : List Nat) (w w' : World) : Prop where
  os : w'.os = w.os
  tape : w'.tape = w.tape
  output : w'.output = w.output
  size : w.heap.size ≤ w'.heap.size
  same : ∀ b, b < w.heap.size → b ∉ S → w'.heap[b]? = w.heap[b]?

theorem Ext.refl (S : List Nat) (w : World) : Ext S w w := ⟨rfl, rfl, rfl, Nat.le_refl _, fun _ _ _ => rfl⟩
theorem Ext.trans {S S' : List Nat} {a b c : World} (h : Ext S a b) (k : Ext S' b c) (hs : ∀ x, x ∈ S' → x ∈ S ∨ a.heap.size ≤ x) : Ext S a c :=
  ⟨k.os.trans h.os, k.tape.trans h.tape, k.output.trans h.output, Nat.le_trans h.size k.size, fun x hx hn => by
    refine (k.same x (Nat.lt_of_lt_of_le hx h.size) (fun hm => ?_)).trans (h.same x hx hn)
    rcases hs x hm with h' | h'
    · exact hn h'
    · omega⟩
theorem Ext.tr {S : List Nat} {a b c : World} (h : Ext S a b) (k : Ext S b c) : Ext S a c := h.trans k fun _ h => .inl h
theorem Ext.mono {S S' : List Nat} {a b : World} (h : Ext S a b) (hs : ∀ x, x ∈ S → x ∈ S' ∨ a.heap.size ≤ x) : Ext S' a b :=
  ⟨h.os, h.tape, h.output, h.size, fun x hx hn => h.same x hx fun hm => by
    rcases hs x hm with h' | h'
    · exact hn h'
    · omega⟩
theorem Ext.drewN {S : List Nat} {a b : World} (h : Ext S a b) (n : Nat) : Ext S a (b.drewN n) := ⟨h.os, h.tape, h.output, h.size, h.same⟩
theorem Ext.drew {S : List Nat} {a b : World} (h : Ext S a b) : Ext S a b.drew := ⟨h.os, h.tape, h.output, h.size, h.same⟩
theorem Ext.setCell {S : List Nat} {a b : World} (h : Ext S a b) (p : Addr) (v : Value) (hp : p.block ∈ S ∨ a.heap.size ≤ p.block) : Ext S a (b.setCell p v) :=
  ⟨h.os, h.tape, h.output, by simpa using h.size, fun x hx hn => by
    refine (Below.heap_setCell b p v x (fun e => ?_)).trans (h.same x hx hn)
    subst e
    rcases hp with h' | h'
    · exact hn h'
    · omega⟩
theorem Ext.alloc {S : List Nat} {a b : World} (h : Ext S a b) (o : Obj) : Ext S a (b.alloc o) :=
  ⟨h.os, h.tape, h.output, by have := h.size; simp; omega, fun x hx hn =>
    (Below.heap_alloc b o x (Nat.lt_of_lt_of_le hx h.size)).trans (h.same x hx hn)⟩
theorem Ext.below {w w' : World} (h : Ext [] w w') : Below w.heap.size w w' := ⟨h.os, h.tape, h.output, h.size, fun x hx => h.same x hx (by simp)⟩
theorem Below.ext {w w' : World} (h : Below w.heap.size w w') : Ext [] w w' := ⟨h.os, h.tape, h.output, h.size, fun x hx _ => h.block x hx⟩
theorem Ext.of_drawn {w w' : World} (h : ∃ n, w' = w.drewN n) (S : List Nat) : Ext S w w' := by
  obtain ⟨n, rfl⟩ := h
  exact (Ext.refl S w).drewN n

/-! ### Blocks -/
/-- Block b is a row of cells of type T, none of them frozen. -/
def Blk (w : World) (b : Nat) (cs : List Value) (T : TypeId) : Prop := w.heap[b]? = some (.cells cs.toArray T (0, 0))
section
variable {w w' : World} {b : Nat} {cs : List Value} {T : TypeId}
theorem Blk.lt (h : Blk w b cs T) : b < w.heap.size := by
  unfold Blk at h
  exact (Array.getElem?_eq_some_iff.1 h).1
theorem Blk.cells (h : Blk w b cs T) (i : Nat) : w.cell? ⟨b, i, none⟩ = cs[i]? := by
  unfold Blk at h
  simp [World.cell?, h]
theorem Blk.cell (h : Blk w b cs T) (i : Nat) {v : Value} (hv : cs[i]? = some v) : w.cell? ⟨b, i, none⟩ = some v := (h.cells i).trans hv
theorem Blk.free (h : Blk w b cs T) (i : Nat) : w.frozen? ⟨b, i, none⟩ = false := by
  unfold Blk at h
  simp [World.frozen?, h]
theorem Blk.ext {S : List Nat} (h : Blk w b cs T) (he : Ext S w w') (hb : b ∉ S) : Blk w' b cs T := (he.same b h.lt hb).trans h
theorem Blk.drewN (h : Blk w b cs T) (n : Nat) : Blk (w.drewN n) b cs T := h
theorem Blk.drew (h : Blk w b cs T) : Blk w.drew b cs T := h
theorem Blk.alloc (h : Blk w b cs T) (o : Obj) : Blk (w.alloc o) b cs T := (Below.heap_alloc w o b h.lt).trans h
theorem Blk.new (w : World) (cs : List Value) (T : TypeId) : Blk (w.alloc (.cells cs.toArray T)) w.heap.size cs T := by
  show (w.heap.push (Obj.cells cs.toArray T))[w.heap.size]? = _
  simp
theorem Blk.set (h : Blk w b cs T) (i : Nat) (v : Value) : Blk (w.setCell ⟨b, i, none⟩ v) b (cs.set i v) T := by
  unfold Blk at *
  simp [World.setCell, Array.getElem?_modify, h]
theorem Blk.set_ne (h : Blk w b cs T) {p : Addr} (v : Value) (hp : p.block ≠ b) : Blk (w.setCell p v) b cs T :=
  (Below.heap_setCell w p v b (fun e => hp e.symm)).trans h
theorem Blk.congr {ds : List Value} (h : Blk w b cs T) (e : cs = ds) : Blk w b ds T := e ▸ h
theorem Blk.ne_of {b' : Nat} {cs' : List Value} {T' : TypeId} (h : Blk w b cs T) (h' : Blk w b' cs' T') (ht : T ≠ T') : b ≠ b' := by
  intro e
  subst e
  unfold Blk at h h'
  rw [h] at h'
  simp at h'
  exact ht h'.2
theorem drewN_size (n : Nat) : (w.drewN n).heap.size = w.heap.size := rfl
end

/-- Only draws happened. -/
def Dr (w w' : World) : Prop := ∃ n, w' = w.drewN n
theorem Dr.refl (w : World) : Dr w w := ⟨0, rfl⟩
theorem Dr.ext {w w' : World} (h : Dr w w') (S : List Nat) : Ext S w w' := Ext.of_drawn h S

/-! ### Words -/
def u64s (l : List Int) : List Value := l.map (.int .u64)
def i64s (l : List Int) : List Value := l.map (.int .i64)
@[simp] theorem u64s_length (l : List Int) : (u64s l).length = l.length := by simp [u64s]
@[simp] theorem i64s_length (l : List Int) : (i64s l).length = l.length := by simp [i64s]
theorem u64s_get (l : List Int) (i : Nat) (h : i < l.length) : (u64s l)[i]? = some (.int .u64 (l.getD i 0)) := by simp [u64s, h]
theorem i64s_get (l : List Int) (i : Nat) (h : i < l.length) : (i64s l)[i]? = some (.int .i64 (l.getD i 0)) := by simp [i64s, h]

end Go.Proofs.Ytcgnficlcgmffaa
