/-
  The map of a configuration, as plain numbers.
-/
import Derived.Test.YtcgnficlcgmffaaModel
namespace Go.Proofs.Ytcgnficlcgmffaa
open Go.RowKit

def slotsOf (k : Int) : Int := if k = 0 then 1 else if k = 1 then 2 else if k = 2 then 4 else if k = 3 then 8 else if k = 4 then 16 else 0
def Cfg.nodes (c : Cfg) : Int := c.c0 + c.c1 + c.c2 + c.c3 + c.c4
def Cfg.classOf (c : Cfg) (v : Int) : Int := if v < 1 then -1 else if v ≤ c.c0 then 0 else if v ≤ c.c0 + c.c1 then 1 else if v ≤ c.c0 + c.c1 + c.c2 then 2 else if v ≤ c.c0 + c.c1 + c.c2 + c.c3 then 3 else if v ≤ c.nodes then 4 else -1
structure Cfg.CellsOk (c : Cfg) : Prop where
  h0 : 0 ≤ c.c0 ∧ c.c0 ≤ 12
  h1 : 0 ≤ c.c1 ∧ c.c1 ≤ 12
  h2 : 0 ≤ c.c2 ∧ c.c2 ≤ 12
  h3 : 0 ≤ c.c3 ∧ c.c3 ≤ 12
  h4 : 0 ≤ c.c4 ∧ c.c4 ≤ 12

structure Cfg.Ok (c : Cfg) : Prop where
  cells : c.CellsOk
  some : 1 ≤ c.nodes
  markers : 1 ≤ c.markers ∧ c.markers ≤ 4
  mutators : 1 ≤ c.mutators ∧ c.mutators ≤ 4
  deque : 2 ≤ c.deque ∧ c.deque ≤ 8
  chunk : 1 ≤ c.chunk ∧ c.chunk ≤ 16
  buffer : 1 ≤ c.buffer ∧ c.buffer ≤ 4
  roots : 1 ≤ c.roots ∧ c.roots ≤ 8
  sweep : 1 ≤ c.sweep ∧ c.sweep ≤ 16
/-- How many slots the nodes have, up to the k-th. -/
def Cfg.rooms (c : Cfg) (k : Nat) : List Int := (List.range k).map fun (i : Nat) => slotsOf (c.classOf ((i : Int) + 1))
def Cfg.pieces (c : Cfg) (k : Nat) : Int := ((c.rooms k).map fun r => (r + c.chunk - 1) / c.chunk).sum
def Cfg.base (c : Cfg) : Int := c.nodes + 2 * c.markers + c.mutators
def ats (n0 : Int) : List Int → List Int
  | [] => []
  | r :: l => n0 :: ats (n0 + 4 + r) l
def Cfg.lay (c : Cfg) : Lay :=
  let n := c.nodes.toNat
  let deques := 11 + c.mutators
  let packets := deques + c.markers * (2 + c.deque)
  let many := c.base + c.pieces n
  let node0 := packets + many * 6
  { c := c, ack := 6, head := 6 + c.mutators, deques := deques, packets := packets, node0 := node0, nodes := c.nodes, many := many, parts := (c.nodes + c.sweep - 1) / c.sweep,
    all := node0 + 4 * c.nodes + (c.rooms n).sum, at_ := ats node0 (c.rooms n), room := c.rooms n }
theorem slotsOf_range (k : Int) : 0 ≤ slotsOf k ∧ slotsOf k ≤ 16 := by
  unfold slotsOf; repeat' split
  all_goals omega
theorem Cfg.rooms_succ (c : Cfg) (k : Nat) : c.rooms (k + 1) = c.rooms k ++ [slotsOf (c.classOf ((k : Int) + 1))] := by simp [Cfg.rooms, List.range_succ]
theorem Cfg.rooms_len (c : Cfg) (k : Nat) : (c.rooms k).length = k := by simp [Cfg.rooms]
theorem Cfg.pieces_succ (c : Cfg) (k : Nat) : c.pieces (k + 1) = c.pieces k + (slotsOf (c.classOf ((k : Int) + 1)) + c.chunk - 1) / c.chunk := by
  simp [Cfg.pieces, Cfg.rooms_succ]
theorem Cfg.pieces_range (c : Cfg) (h : 1 ≤ c.chunk) (k : Nat) : 0 ≤ c.pieces k ∧ c.pieces k ≤ 16 * k := by
  induction k with
  | zero => simp [Cfg.pieces, Cfg.rooms]
  | succ k ih =>
    rw [Cfg.pieces_succ]
    have hr := slotsOf_range (c.classOf ((k : Int) + 1))
    have h1 : 0 ≤ (slotsOf (c.classOf ((k : Int) + 1)) + c.chunk - 1) / c.chunk := Int.ediv_nonneg (by omega) (by omega)
    have h2 : (slotsOf (c.classOf ((k : Int) + 1)) + c.chunk - 1) / c.chunk ≤ 16 := by
      have : slotsOf (c.classOf ((k : Int) + 1)) + c.chunk - 1 ≤ 16 * c.chunk := by omega
      have h3 := Int.ediv_le_ediv (by omega : 0 < c.chunk) this
      rw [Int.mul_ediv_cancel _ (by omega)] at h3
      exact h3
    omega
theorem Cfg.rooms_in (c : Cfg) (k : Nat) : ∀ x ∈ c.rooms k, 0 ≤ x ∧ x ≤ 16 := by
  intro x hx
  obtain ⟨i, _, rfl⟩ := List.mem_map.1 hx
  exact slotsOf_range _
theorem sum_in (l : List Int) (h : ∀ x ∈ l, 0 ≤ x ∧ x ≤ 16) : 0 ≤ l.sum ∧ l.sum ≤ 16 * l.length := by
  induction l with
  | nil => simp
  | cons a l ih =>
    have h1 := h a (by simp)
    have h2 := ih (fun x hx => h x (by simp [hx]))
    simp only [List.sum_cons, List.length_cons]
    omega
theorem ats_append (N : Int) (l : List Int) (r : Int) : ats N (l ++ [r]) = ats N l ++ [N + 4 * l.length + l.sum] := by
  induction l generalizing N with
  | nil => simp [ats]
  | cons a l ih =>
    simp only [List.cons_append, ats, ih, List.length_cons, List.sum_cons]
    congr 3
    omega
theorem ats_len (N : Int) (l : List Int) : (ats N l).length = l.length := by
  induction l generalizing N with
  | nil => rfl
  | cons a l ih => simp [ats, ih]
theorem Cfg.room_get (c : Cfg) (k i : Nat) (h : i < k) : (c.rooms k).getD i 0 = slotsOf (c.classOf ((i : Int) + 1)) := by
  simp [Cfg.rooms, h]
theorem Cfg.rooms_pos (c : Cfg) (h : c.CellsOk) : ∀ x ∈ c.rooms c.nodes.toNat, 1 ≤ x ∧ x ≤ 16 := by
  intro x hx
  obtain ⟨i, hi, rfl⟩ := List.mem_map.1 hx
  have hi' : (i : Int) < c.nodes := by have := List.mem_range.1 hi; omega
  obtain ⟨a, b, d, e, f⟩ := h
  have hc : 0 ≤ c.classOf ((i : Int) + 1) ∧ c.classOf ((i : Int) + 1) ≤ 4 := by
    unfold Cfg.classOf
    repeat' split
    all_goals omega
  generalize c.classOf ((i : Int) + 1) = k at hc
  have hk : k = 0 ∨ k = 1 ∨ k = 2 ∨ k = 3 ∨ k = 4 := by omega
  rcases hk with rfl | rfl | rfl | rfl | rfl <;> decide
theorem ats_in (l : List Int) (h : ∀ x ∈ l, 1 ≤ x ∧ x ≤ 16) (N : Int) (hN : 0 ≤ N) : ∀ x ∈ ats N l, 0 ≤ x ∧ x ≤ N + 20 * l.length := by
  induction l generalizing N with
  | nil => intro x hx; simp [ats] at hx
  | cons a l ih =>
    intro x hx
    have ha := h a (by simp)
    simp only [ats, List.mem_cons] at hx
    simp only [List.length_cons]
    rcases hx with rfl | hx
    · omega
    · have := ih (fun y hy => h y (by simp [hy])) (N + 4 + a) (by omega) x hx
      omega
theorem Cfg.nodes_in (c : Cfg) (h : c.CellsOk) : 0 ≤ c.nodes ∧ c.nodes ≤ 60 := by
  obtain ⟨a, b, d, e, f⟩ := h; unfold Cfg.nodes; omega
theorem Cfg.lay_ok (c : Cfg) (h : c.Ok) : c.lay.Ok := by
  have hn := c.nodes_in h.cells
  have hp := c.pieces_range h.chunk.1 c.nodes.toNat
  have hm : 0 ≤ c.markers * (2 + c.deque) ∧ c.markers * (2 + c.deque) ≤ 40 := by
    have h1 := h.markers
    have h2 := h.deque
    refine ⟨Int.mul_nonneg (by omega) (by omega), ?_⟩
    have := Int.mul_le_mul (by omega : c.markers ≤ 4) (by omega : 2 + c.deque ≤ 10) (by omega) (by omega)
    omega
  have hmu := h.mutators
  have hma := h.markers
  have hb : c.base = c.nodes + 2 * c.markers + c.mutators := rfl
  have hs := sum_in _ (fun x hx => Cfg.rooms_in c c.nodes.toNat x hx)
  rw [Cfg.rooms_len] at hs
  have hs1 := h.some
  have hf : 1 ≤ (c.nodes + c.sweep - 1) / c.sweep ∧ (c.nodes + c.sweep - 1) / c.sweep ≤ c.nodes := by
    obtain ⟨s0, s1⟩ := h.sweep
    constructor
    · have h3 := Int.ediv_le_ediv (by omega : 0 < c.sweep) (by omega : 1 * c.sweep ≤ c.nodes + c.sweep - 1)
      rw [Int.mul_ediv_cancel _ (by omega)] at h3
      exact h3
    · have h3 := Int.ediv_le_ediv (by omega : 0 < c.sweep) (show c.nodes + c.sweep - 1 ≤ c.nodes * c.sweep by
        have := Int.mul_le_mul_of_nonneg_left s0 (by omega : 0 ≤ c.nodes - 1)
        have e : (c.nodes - 1) * c.sweep = c.nodes * c.sweep - c.sweep := by rw [Int.sub_mul]; omega
        omega)
      rw [Int.mul_ediv_cancel _ (by omega)] at h3
      exact h3
  refine ⟨?_, ?_, ?_, ?_, ?_, ?_, ?_, ?_, h.markers, h.mutators, h.deque, h.chunk, h.buffer, h.roots, h.sweep, ?_, ?_, ?_, ?_, ?_⟩
  all_goals simp only [Cfg.lay]
  · omega
  · omega
  · omega
  · omega
  · omega
  · omega
  · omega
  · omega
  · intro x hx
    obtain ⟨a, b, d, e, f⟩ := h.cells
    simp only [Cfg.cells, List.mem_cons, List.not_mem_nil, or_false] at hx
    rcases hx with rfl | rfl | rfl | rfl | rfl <;> assumption
  · rw [ats_len, Cfg.rooms_len]; omega
  · rw [Cfg.rooms_len]; omega
  · intro x hx
    have := ats_in _ (c.rooms_pos h.cells) _ (by omega) x hx
    rw [Cfg.rooms_len] at this
    omega
  · exact c.rooms_pos h.cells

end Go.Proofs.Ytcgnficlcgmffaa
