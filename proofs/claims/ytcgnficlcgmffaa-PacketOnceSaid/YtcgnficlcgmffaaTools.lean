/-
  Laws that leave memory as a letter: a slice that is made.
-/
import Derived.Deep.OwnRows
import Derived.Test.YtcgnficlcgmffaaSlice
namespace Go.Proofs.Ytcgnficlcgmffaa
open Go.RowKit

theorem wpList_make_blk {P : Program} (w : World) {ops : Array Oper} {rest : List Oper} {o : Oper} {a : Act} {Q : Exit → Act → World → Prop}
    (hg : o.guard = none) (l c : Operand) (t : TypeId) (hop : o.op = Op.makeSlice t l c)
    (e : TypeId) (i : TypeInfo) (z : Value) (ht : P.underlying t = some (.slice e)) (hi : P.info? e = some i) (hz : i.zero = some z) (hsize : i.size = 1) (hz1 : z.cells = #[z])
    (kl kc : IntKind) (n : Nat) (hl : a.eval l = .int kl (n : Int)) (hc : a.eval c = .int kc (n : Int)) (hbytes : i.bytes * n ≤ 281474976710656) (h63 : n ≤ 9223372036854775807)
    (hK : ∀ w1 g, Blk w1 g (List.replicate n z) e → Ext [] w w1 → w.heap.size ≤ g → wpList P ops Q rest (a.put o.dst (.slice (some ⟨g, 0, none⟩) n n)) w1) :
    wpList P ops Q (o :: rest) a w := by
  refine wpList_make_row w hg l c t hop e i z ht hi hz hsize hz1 kl kc n hl hc hbytes h63 ?_
  refine hK _ _ ((Blk.new w (madeCells #[z] n).toList _).congr ?_) ((Ext.refl [] w).alloc _) (Nat.le_refl _)
  simp [madeCells, Nat.mod_one, List.map_const']
theorem u64s_replicate (n : Nat) (v : Int) : List.replicate n (Value.int .u64 v) = u64s (List.replicate n v) := by simp [u64s]
theorem i64s_replicate (n : Nat) (v : Int) : List.replicate n (Value.int .i64 v) = i64s (List.replicate n v) := by simp [i64s]
theorem u64s_pt {l : List Int} {i v : Int} (h0 : 0 ≤ i) (h1 : i < l.length) : (u64s l).set i.toNat (.int .u64 v) = u64s (pt l i v) := by
  unfold pt
  rw [if_pos ⟨h0, h1⟩]
  simp [u64s]
theorem u64s_ld {l : List Int} {i : Int} (h0 : 0 ≤ i) (h1 : i < l.length) : (u64s l)[i.toNat]? = some (.int .u64 (ld l i)) := by
  rw [u64s_get _ _ (by omega)]
  unfold ld
  rw [if_pos ⟨h0, h1⟩]
/-- A word is stored. -/
theorem Blk.word {w : World} {g : Nat} {l : List Int} {T : TypeId} (h : Blk w g (u64s l) T) {i v : Int} (h0 : 0 ≤ i) (h1 : i < l.length) : Blk (w.setCell ⟨g, i.toNat, none⟩ (.int .u64 v)) g (u64s (pt l i v)) T :=
  (h.set _ _).congr (u64s_pt h0 h1)
end Go.Proofs.Ytcgnficlcgmffaa
