/-
  All things in the order of their places: a thing's place is what the map's numbers tell.
-/
import Derived.Test.YtcgnficlcgmffaaLay
namespace Go.Proofs.Ytcgnficlcgmffaa
open Go.RowKit

/-- A thing: its kind, and its numbers. -/
abbrev Thing := Int × Int × Int
def plc (t : Thing) : List Thing → Nat → Int
  | [], _ => -1
  | a :: l, k => if a = t then k else plc t l (k + 1)
theorem plc_none {t : Thing} : ∀ {l : List Thing} {k : Nat}, t ∉ l → plc t l k = -1
  | [], _, _ => rfl
  | a :: l, k, h => by
    have h1 : ¬ a = t := fun e => h (by simp [e])
    have h2 : t ∉ l := fun e => h (by simp [e])
    simp only [plc, h1, if_false]
    exact plc_none h2
theorem plc_right {t : Thing} : ∀ {l m : List Thing} {k : Nat}, t ∉ l → plc t (l ++ m) k = plc t m (k + l.length)
  | [], _, _, _ => rfl
  | a :: l, m, k, h => by
    have h1 : ¬ a = t := fun e => h (by simp [e])
    have h2 : t ∉ l := fun e => h (by simp [e])
    simp only [List.cons_append, plc, h1, if_false, List.length_cons]
    rw [plc_right h2]
    congr 1
    omega
theorem plc_left {t : Thing} : ∀ {l m : List Thing} {k : Nat}, t ∈ l → plc t (l ++ m) k = plc t l k
  | [], _, _, h => by simp at h
  | a :: l, m, k, h => by
    by_cases h1 : a = t
    · simp [plc, h1]
    · have h2 : t ∈ l := by
        rcases List.mem_cons.1 h with h | h
        · exact absurd h.symm h1
        · exact h
      simp only [List.cons_append, plc, h1, if_false]
      exact plc_left h2
/-- Rows of things, one behind the other. -/
def rowsOf (f : Nat → List Thing) : Nat → List Thing
  | 0 => []
  | n + 1 => rowsOf f n ++ f n
theorem mem_rows {f : Nat → List Thing} {t : Thing} : ∀ {n : Nat}, t ∈ rowsOf f n ↔ ∃ i, i < n ∧ t ∈ f i
  | 0 => by simp [rowsOf]
  | n + 1 => by
    simp only [rowsOf, List.mem_append, mem_rows]
    constructor
    · rintro (⟨i, h, k⟩ | h)
      · exact ⟨i, by omega, k⟩
      · exact ⟨n, by omega, h⟩
    · rintro ⟨i, h, k⟩
      by_cases e : i = n
      · subst e; exact .inr k
      · exact .inl ⟨i, by omega, k⟩
theorem plc_rows {f : Nat → List Thing} {t : Thing} {i : Nat} (hi : t ∈ f i) (ho : ∀ j, j ≠ i → t ∉ f j) : ∀ {n : Nat} {k : Nat}, i < n → plc t (rowsOf f n) k = plc t (f i) (k + (rowsOf f i).length)
  | 0, _, h => by omega
  | n + 1, k, h => by
    by_cases e : i = n
    · subst e
      have hn : t ∉ rowsOf f i := fun hm => by
        obtain ⟨j, hj, hk⟩ := mem_rows.1 hm
        exact ho j (by omega) hk
      simp only [rowsOf]
      rw [plc_right hn]
    · have hm : t ∈ rowsOf f n := mem_rows.2 ⟨i, by omega, hi⟩
      simp only [rowsOf]
      rw [plc_left hm]
      exact plc_rows hi ho (by omega)
theorem rows_len {f : Nat → List Thing} {c : Nat} (h : ∀ i, (f i).length = c) : ∀ n, (rowsOf f n).length = n * c
  | 0 => by simp [rowsOf]
  | n + 1 => by simp [rowsOf, rows_len h n, h, Nat.add_mul]

/-- Things (k, a, 0), (k, a, 1), .. -/
def lineB (k a : Int) (n : Nat) : List Thing := (List.range n).map fun (j : Nat) => (k, a, (j : Int))
def lineA (k : Int) (n : Nat) : List Thing := (List.range n).map fun (j : Nat) => (k, (j : Int), (0 : Int))
theorem mem_lineB {k a k' a' b' : Int} {n : Nat} : (k', a', b') ∈ lineB k a n ↔ k' = k ∧ a' = a ∧ 0 ≤ b' ∧ b' < n := by
  simp only [lineB, List.mem_map, List.mem_range, Prod.mk.injEq]
  constructor
  · rintro ⟨j, hj, h1, h2, h3⟩; exact ⟨h1.symm, h2.symm, by omega, by omega⟩
  · rintro ⟨rfl, rfl, h1, h2⟩; exact ⟨b'.toNat, by omega, rfl, rfl, by omega⟩
theorem mem_lineA {k k' a' b' : Int} {n : Nat} : (k', a', b') ∈ lineA k n ↔ k' = k ∧ b' = 0 ∧ 0 ≤ a' ∧ a' < n := by
  simp only [lineA, List.mem_map, List.mem_range, Prod.mk.injEq]
  constructor
  · rintro ⟨j, hj, h1, h2, h3⟩; exact ⟨h1.symm, h3.symm, by omega, by omega⟩
  · rintro ⟨rfl, rfl, h1, h2⟩; exact ⟨a'.toNat, by omega, rfl, by omega, rfl⟩
theorem lineB_len (k a : Int) (n : Nat) : (lineB k a n).length = n := by simp [lineB]
theorem lineA_len (k : Int) (n : Nat) : (lineA k n).length = n := by simp [lineA]
theorem lineB_succ (k a : Int) (n : Nat) : lineB k a (n + 1) = lineB k a n ++ [(k, a, (n : Int))] := by simp [lineB, List.range_succ]
theorem lineA_succ (k : Int) (n : Nat) : lineA k (n + 1) = lineA k n ++ [(k, (n : Int), 0)] := by simp [lineA, List.range_succ]
theorem plc_lineB {k a : Int} {b : Nat} : ∀ {n i : Nat}, b < n → plc (k, a, (b : Int)) (lineB k a n) i = i + b
  | 0, _, h => by omega
  | n + 1, i, h => by
    rw [lineB_succ]
    by_cases e : b = n
    · subst e
      rw [plc_right (by rw [mem_lineB]; omega), lineB_len]
      simp [plc]
    · rw [plc_left (by rw [mem_lineB]; omega)]
      exact plc_lineB (by omega)
theorem plc_lineA {k : Int} {a : Nat} : ∀ {n i : Nat}, a < n → plc (k, (a : Int), 0) (lineA k n) i = i + a
  | 0, _, h => by omega
  | n + 1, i, h => by
    rw [lineA_succ]
    by_cases e : a = n
    · subst e
      rw [plc_right (by rw [mem_lineA]; omega), lineA_len]
      simp [plc]
    · rw [plc_left (by rw [mem_lineA]; omega)]
      exact plc_lineA (by omega)

namespace Cfg
def mkRow (c : Cfg) (i : Nat) : List Thing := [(8, (i : Int), 0), (9, (i : Int), 0)] ++ lineB 10 i c.deque.toNat
def pkRow (p : Nat) : List Thing := [(11, (p : Int) + 1, 0), (12, (p : Int) + 1, 0)] ++ lineB 13 ((p : Int) + 1) 4
def ndRow (c : Cfg) (v : Nat) : List Thing := [(14, (v : Int) + 1, 0), (15, (v : Int) + 1, 0), (16, (v : Int) + 1, 0), (17, (v : Int) + 1, 0)] ++ lineB 18 ((v : Int) + 1) ((c.rooms c.nodes.toNat).getD v 0).toNat
def singles : List Thing := [(0, 0, 0), (1, 0, 0), (2, 0, 0), (3, 0, 0), (4, 0, 0), (5, 0, 0)]
def things (c : Cfg) : List Thing :=
  singles ++ lineA 6 c.mutators.toNat ++ lineA 7 5 ++ rowsOf c.mkRow c.markers.toNat ++ rowsOf pkRow c.lay.many.toNat ++ rowsOf c.ndRow c.nodes.toNat
def place (c : Cfg) (t : Thing) : Int := plc t c.things 0

variable {c : Cfg}
theorem mem_singles {k a b : Int} : (k, a, b) ∈ singles ↔ 0 ≤ k ∧ k ≤ 5 ∧ a = 0 ∧ b = 0 := by
  simp only [singles, List.mem_cons, Prod.mk.injEq, List.not_mem_nil, or_false]
  omega
theorem mem_mkRow {i : Nat} {k a b : Int} : (k, a, b) ∈ c.mkRow i ↔ a = i ∧ (k = 8 ∧ b = 0 ∨ k = 9 ∧ b = 0 ∨ k = 10 ∧ 0 ≤ b ∧ b < c.deque.toNat) := by
  simp only [mkRow, List.mem_append, List.mem_cons, Prod.mk.injEq, List.not_mem_nil, or_false, mem_lineB]
  omega
theorem mem_pkRow {i : Nat} {k a b : Int} : (k, a, b) ∈ pkRow i ↔ a = i + 1 ∧ (k = 11 ∧ b = 0 ∨ k = 12 ∧ b = 0 ∨ k = 13 ∧ 0 ≤ b ∧ b < 4) := by
  simp only [pkRow, List.mem_append, List.mem_cons, Prod.mk.injEq, List.not_mem_nil, or_false, mem_lineB]
  omega
theorem mem_ndRow {i : Nat} {k a b : Int} : (k, a, b) ∈ c.ndRow i ↔ a = i + 1 ∧ (14 ≤ k ∧ k ≤ 17 ∧ b = 0 ∨ k = 18 ∧ 0 ≤ b ∧ b < ((c.rooms c.nodes.toNat).getD i 0).toNat) := by
  simp only [ndRow, List.mem_append, List.mem_cons, Prod.mk.injEq, List.not_mem_nil, or_false, mem_lineB]
  omega
theorem mkRow_len (i : Nat) : (c.mkRow i).length = 2 + c.deque.toNat := by simp [mkRow, lineB_len]; omega
theorem pkRow_len (i : Nat) : (pkRow i).length = 6 := by simp [pkRow, lineB_len]
theorem mem_mk {n : Nat} {k a b : Int} : (k, a, b) ∈ rowsOf c.mkRow n ↔ 0 ≤ a ∧ a < n ∧ (k = 8 ∧ b = 0 ∨ k = 9 ∧ b = 0 ∨ k = 10 ∧ 0 ≤ b ∧ b < c.deque.toNat) := by
  rw [mem_rows]
  constructor
  · rintro ⟨i, hi, h⟩; rw [mem_mkRow] at h; omega
  · intro h; exact ⟨a.toNat, by omega, by rw [mem_mkRow]; omega⟩
theorem mem_pk {n : Nat} {k a b : Int} : (k, a, b) ∈ rowsOf pkRow n ↔ 1 ≤ a ∧ a ≤ n ∧ (k = 11 ∧ b = 0 ∨ k = 12 ∧ b = 0 ∨ k = 13 ∧ 0 ≤ b ∧ b < 4) := by
  rw [mem_rows]
  constructor
  · rintro ⟨i, hi, h⟩; rw [mem_pkRow] at h; omega
  · intro h; exact ⟨(a - 1).toNat, by omega, by rw [mem_pkRow]; omega⟩
theorem mem_nd {n : Nat} {k a b : Int} : (k, a, b) ∈ rowsOf c.ndRow n ↔ 1 ≤ a ∧ a ≤ n ∧ (14 ≤ k ∧ k ≤ 17 ∧ b = 0 ∨ k = 18 ∧ 0 ≤ b ∧ b < ((c.rooms c.nodes.toNat).getD (a.toNat - 1) 0).toNat) := by
  rw [mem_rows]
  constructor
  · rintro ⟨i, hi, h⟩
    rw [mem_ndRow] at h
    obtain ⟨rfl, h⟩ := h
    have e : ((i : Int) + 1).toNat - 1 = i := by omega
    rw [e]
    exact ⟨by omega, by omega, h⟩
  · intro h
    refine ⟨a.toNat - 1, by omega, ?_⟩
    rw [mem_ndRow]
    exact ⟨by omega, h.2.2⟩
/-- Which things there are. -/
theorem mem_things {k a b : Int} : (k, a, b) ∈ c.things ↔
    (0 ≤ k ∧ k ≤ 5 ∧ a = 0 ∧ b = 0) ∨ (k = 6 ∧ b = 0 ∧ 0 ≤ a ∧ a < c.mutators.toNat) ∨ (k = 7 ∧ b = 0 ∧ 0 ≤ a ∧ a < 5) ∨
    (0 ≤ a ∧ a < c.markers.toNat ∧ (k = 8 ∧ b = 0 ∨ k = 9 ∧ b = 0 ∨ k = 10 ∧ 0 ≤ b ∧ b < c.deque.toNat)) ∨
    (1 ≤ a ∧ a ≤ c.lay.many.toNat ∧ (k = 11 ∧ b = 0 ∨ k = 12 ∧ b = 0 ∨ k = 13 ∧ 0 ≤ b ∧ b < 4)) ∨
    (1 ≤ a ∧ a ≤ c.nodes.toNat ∧ (14 ≤ k ∧ k ≤ 17 ∧ b = 0 ∨ k = 18 ∧ 0 ≤ b ∧ b < ((c.rooms c.nodes.toNat).getD (a.toNat - 1) 0).toNat)) := by
  simp only [things, List.mem_append, mem_singles, mem_lineA, mem_mk, mem_pk, mem_nd]
  constructor
  · rintro (((((h | h) | h) | h) | h) | h)
    · exact .inl h
    · exact .inr (.inl h)
    · exact .inr (.inr (.inl (by omega)))
    · exact .inr (.inr (.inr (.inl h)))
    · exact .inr (.inr (.inr (.inr (.inl h))))
    · exact .inr (.inr (.inr (.inr (.inr h))))
  · rintro (h | h | h | h | h | h)
    · exact .inl (.inl (.inl (.inl (.inl h))))
    · exact .inl (.inl (.inl (.inl (.inr h))))
    · exact .inl (.inl (.inl (.inr (by omega))))
    · exact .inl (.inl (.inr h))
    · exact .inl (.inr h)
    · exact .inr h

theorem place_single (k : Int) (h : 0 ≤ k ∧ k ≤ 5) : c.place (k, 0, 0) = k := by
  unfold place things
  simp only [List.append_assoc]
  rw [plc_left (by rw [mem_singles]; omega)]
  have : k = 0 ∨ k = 1 ∨ k = 2 ∨ k = 3 ∨ k = 4 ∨ k = 5 := by omega
  rcases this with rfl | rfl | rfl | rfl | rfl | rfl <;> rfl

theorem place_head (hc : c.Ok) (k : Int) : c.place (7, k, 0) = c.lay.headAt k := by
  unfold Lay.headAt
  split
  · rename_i h
    unfold place things
    simp only [List.append_assoc]
    rw [plc_right (by rw [mem_singles]; omega), plc_right (by rw [mem_lineA]; omega), plc_left (by rw [mem_lineA]; omega)]
    obtain ⟨a, rfl⟩ := Int.eq_ofNat_of_zero_le h.1
    rw [plc_lineA (by omega), lineA_len]
    have := hc.mutators
    simp only [singles, List.length_cons, List.length_nil, lay]
    omega
  · unfold place
    rw [plc_none (by rw [mem_things]; omega)]
theorem place_ack (hc : c.Ok) (i : Int) : c.place (6, i, 0) = c.lay.ackAt i := by
  have hm := hc.mutators
  have e : c.lay.c.mutators = c.mutators := rfl
  unfold Lay.ackAt
  rw [e]
  split
  · rename_i h
    unfold place things
    simp only [List.append_assoc]
    rw [plc_right (by rw [mem_singles]; omega), plc_left (by rw [mem_lineA]; omega)]
    obtain ⟨a, rfl⟩ := Int.eq_ofNat_of_zero_le h.1
    rw [plc_lineA (by omega)]
    simp [singles, lay]
  · unfold place
    rw [plc_none (by rw [mem_things]; omega)]

theorem deques_eq (hc : c.Ok) : ((singles ++ lineA 6 c.mutators.toNat ++ lineA 7 5).length : Int) = c.lay.deques := by
  have hm := hc.mutators
  simp only [List.length_append, lineA_len, singles, List.length_cons, List.length_nil, lay]
  omega
theorem place_end_aux (hc : c.Ok) {k b : Int} {i : Nat} (hi : (i : Int) < c.markers) (hm : (k, (i : Int), b) ∈ c.mkRow i) :
    c.place (k, (i : Int), b) = plc (k, (i : Int), b) (c.mkRow i) (c.lay.deques + i * (2 + c.deque)).toNat := by
  have hd := hc.deque
  have hm' := mem_mkRow.1 hm
  have hma := hc.markers
  unfold place things
  rw [List.append_assoc, List.append_assoc, plc_right, plc_left (by rw [mem_mk]; omega), plc_rows hm (fun j hj h => hj (by have := (mem_mkRow.1 h).1; omega)) (n := c.markers.toNat) (by omega)]
  · congr 1
    have h1 := deques_eq hc
    rw [rows_len mkRow_len]
    have h2 : ((i * (2 + c.deque.toNat) : Nat) : Int) = i * (2 + c.deque) := by
      rw [Int.natCast_mul]; congr 1; omega
    omega
  · simp only [List.mem_append, mem_singles, mem_lineA]; omega
theorem deques_pos (hc : c.Ok) : 0 ≤ c.lay.deques := by have := hc.mutators; simp only [lay]; omega
theorem place_top (hc : c.Ok) (i : Int) : c.place (8, i, 0) = c.lay.top i := by
  have hma := hc.markers
  have hdp := deques_pos hc
  have e1 : c.lay.c.markers = c.markers := rfl
  have e2 : c.lay.c.deque = c.deque := rfl
  unfold Lay.top Lay.endAt
  rw [e1, e2]
  split
  · rename_i h
    obtain ⟨a, rfl⟩ := Int.eq_ofNat_of_zero_le h.1
    have hd := hc.deque
    have h2 : 0 ≤ (a : Int) * (2 + c.deque) := Int.mul_nonneg (by omega) (by omega)
    rw [place_end_aux hc h.2 (by rw [mem_mkRow]; omega)]
    simp [mkRow, plc]
    omega
  · unfold place
    rw [plc_none (by rw [mem_things]; omega)]
theorem place_bottom (hc : c.Ok) (i : Int) : c.place (9, i, 0) = c.lay.bottom i := by
  have hma := hc.markers
  have hdp := deques_pos hc
  have e1 : c.lay.c.markers = c.markers := rfl
  have e2 : c.lay.c.deque = c.deque := rfl
  unfold Lay.bottom Lay.endAt
  rw [e1, e2]
  split
  · rename_i h
    obtain ⟨a, rfl⟩ := Int.eq_ofNat_of_zero_le h.1
    have hd := hc.deque
    have h2 : 0 ≤ (a : Int) * (2 + c.deque) := Int.mul_nonneg (by omega) (by omega)
    rw [place_end_aux hc h.2 (by rw [mem_mkRow]; omega)]
    simp [mkRow, plc]
    omega
  · unfold place
    rw [plc_none (by rw [mem_things]; omega)]
theorem place_entry (hc : c.Ok) (i j : Int) : c.place (10, i, j) = c.lay.entry i j := by
  have hma := hc.markers
  have hd := hc.deque
  have hdp := deques_pos hc
  have e1 : c.lay.c.markers = c.markers := rfl
  have e2 : c.lay.c.deque = c.deque := rfl
  unfold Lay.entry Lay.endAt
  rw [e1, e2]
  by_cases hj : 0 ≤ j ∧ j < c.deque
  · rw [if_pos hj]
    split
    · rename_i h
      obtain ⟨a, rfl⟩ := Int.eq_ofNat_of_zero_le h.1
      obtain ⟨b, rfl⟩ := Int.eq_ofNat_of_zero_le hj.1
      have h2 : 0 ≤ (a : Int) * (2 + c.deque) := Int.mul_nonneg (by omega) (by omega)
      rw [place_end_aux hc h.2 (by rw [mem_mkRow]; omega)]
      unfold mkRow
      rw [plc_right (by simp), plc_lineB (by omega)]
      simp
      omega
    · unfold place
      rw [plc_none (by rw [mem_things]; omega)]
  · rw [if_neg hj]
    unfold place
    rw [plc_none (by rw [mem_things]; omega)]

theorem packets_eq (hc : c.Ok) : ((singles ++ lineA 6 c.mutators.toNat ++ lineA 7 5 ++ rowsOf c.mkRow c.markers.toNat).length : Int) = c.lay.packets := by
  have h1 := deques_eq hc
  have hma := hc.markers
  have hd := hc.deque
  rw [List.length_append, rows_len mkRow_len]
  have h2 : ((c.markers.toNat * (2 + c.deque.toNat) : Nat) : Int) = c.markers * (2 + c.deque) := by
    rw [Int.natCast_mul]; congr 1 <;> omega
  have h3 : c.lay.packets = c.lay.deques + c.markers * (2 + c.deque) := rfl
  omega
theorem packets_pos (hc : c.Ok) : 0 ≤ c.lay.packets := by have := packets_eq hc; omega
theorem place_packet_aux (hc : c.Ok) {k b p : Int} (hp : 1 ≤ p) (hq : p ≤ c.lay.many) (hm : (k, p, b) ∈ pkRow (p - 1).toNat) :
    c.place (k, p, b) = plc (k, p, b) (pkRow (p - 1).toNat) (c.lay.packets + (p - 1) * 6).toNat := by
  have hm' := mem_pkRow.1 hm
  have hpp := packets_pos hc
  unfold place things
  rw [List.append_assoc, plc_right, plc_left (by rw [mem_pk]; omega), plc_rows hm (fun j hj h => hj (by have := (mem_pkRow.1 h).1; omega)) (n := c.lay.many.toNat) (by omega)]
  · congr 1
    have h1 := packets_eq hc
    rw [rows_len pkRow_len]
    omega
  · simp only [List.mem_append, mem_singles, mem_lineA, mem_mk]; omega
theorem place_many (hc : c.Ok) (p : Int) : c.place (11, p, 0) = c.lay.manyAt p := by
  have hpp := packets_pos hc
  unfold Lay.manyAt Lay.packet
  split
  · rename_i h
    rw [place_packet_aux hc h.1 h.2 (by rw [mem_pkRow]; omega)]
    have e : (((p - 1).toNat : Nat) : Int) + 1 = p := by omega
    simp only [pkRow, e, List.cons_append, plc, if_true]
    omega
  · unfold place
    rw [plc_none (by rw [mem_things]; omega)]
theorem place_link (hc : c.Ok) (p : Int) : c.place (12, p, 0) = c.lay.link p := by
  have hpp := packets_pos hc
  unfold Lay.link Lay.packet
  split
  · rename_i h
    rw [place_packet_aux hc h.1 h.2 (by rw [mem_pkRow]; omega)]
    have e : (((p - 1).toNat : Nat) : Int) + 1 = p := by omega
    simp [pkRow, e, plc]
    omega
  · unfold place
    rw [plc_none (by rw [mem_things]; omega)]
theorem place_task (hc : c.Ok) (p j : Int) : c.place (13, p, j) = c.lay.task p j := by
  have hpp := packets_pos hc
  unfold Lay.task Lay.packet
  by_cases hj : 0 ≤ j ∧ j < 4
  · rw [if_pos hj]
    split
    · rename_i h
      rw [place_packet_aux hc h.1 h.2 (by rw [mem_pkRow]; omega)]
      have e : (((p - 1).toNat : Nat) : Int) + 1 = p := by omega
      obtain ⟨b, rfl⟩ := Int.eq_ofNat_of_zero_le hj.1
      unfold pkRow
      rw [e, plc_right (by simp), plc_lineB (by omega)]
      simp
      omega
    · unfold place
      rw [plc_none (by rw [mem_things]; omega)]
  · rw [if_neg hj]
    unfold place
    rw [plc_none (by rw [mem_things]; omega)]

theorem node0_eq (hc : c.Ok) : ((singles ++ lineA 6 c.mutators.toNat ++ lineA 7 5 ++ rowsOf c.mkRow c.markers.toNat ++ rowsOf pkRow c.lay.many.toNat).length : Int) = c.lay.node0 := by
  have h1 := packets_eq hc
  have hm := (c.lay_ok hc).many
  rw [List.length_append, rows_len pkRow_len]
  have h3 : c.lay.node0 = c.lay.packets + c.lay.many * 6 := rfl
  omega
theorem ndRow_len (c : Cfg) (v : Nat) : (c.ndRow v).length = 4 + ((c.rooms c.nodes.toNat).getD v 0).toNat := by simp [ndRow, lineB_len]; omega
theorem ats_get (l : List Int) (h : ∀ x ∈ l, 0 ≤ x) (N : Int) (i : Nat) (hi : i < l.length) : (ats N l).getD i 0 = N + 4 * i + (l.take i).sum := by
  induction l generalizing N i with
  | nil => simp at hi
  | cons a l ih =>
    cases i with
    | zero => simp [ats]
    | succ i =>
      simp only [ats, List.getD_cons_succ]
      rw [ih (fun x hx => h x (by simp [hx])) _ _ (by simpa using hi)]
      simp only [List.take_succ_cons, List.sum_cons]
      omega
theorem nd_len (c : Cfg) : ∀ n, n ≤ c.nodes.toNat → ((rowsOf c.ndRow n).length : Int) = 4 * n + ((c.rooms c.nodes.toNat).take n).sum
  | 0, _ => by simp [rowsOf]
  | n + 1, h => by
    have ih := nd_len c n (by omega)
    have hl : n < (c.rooms c.nodes.toNat).length := by rw [Cfg.rooms_len]; omega
    have hr := Cfg.rooms_in c c.nodes.toNat _ (getD_mem _ n hl)
    simp only [rowsOf, List.length_append, ndRow_len]
    have e : ((c.rooms c.nodes.toNat).take (n + 1)).sum = ((c.rooms c.nodes.toNat).take n).sum + (c.rooms c.nodes.toNat).getD n 0 := by
      rw [List.take_succ_eq_append_getElem hl, List.sum_append]; simp [hl]
    rw [e]
    omega
theorem at_eq (hc : c.Ok) {v : Nat} (hv : v < c.nodes.toNat) : c.lay.at_.getD v 0 = c.lay.node0 + (rowsOf c.ndRow v).length := by
  have h1 := nd_len c v (by omega)
  have h2 := ats_get (c.rooms c.nodes.toNat) (fun x hx => (Cfg.rooms_in c _ x hx).1) c.lay.node0 v (by rw [Cfg.rooms_len]; omega)
  have h3 : c.lay.at_ = ats c.lay.node0 (c.rooms c.nodes.toNat) := rfl
  rw [h3, h2]
  omega
theorem node0_pos (hc : c.Ok) : 0 ≤ c.lay.node0 := by have := node0_eq hc; omega
theorem place_node_aux (hc : c.Ok) {k b v : Int} (hp : 1 ≤ v) (hq : v ≤ c.nodes) (hm : (k, v, b) ∈ c.ndRow (v.toNat - 1)) :
    c.place (k, v, b) = plc (k, v, b) (c.ndRow (v.toNat - 1)) (c.lay.at_.getD (v.toNat - 1) 0).toNat := by
  have hm' := mem_ndRow.1 hm
  have hpp := node0_pos hc
  unfold place things
  rw [plc_right, plc_rows hm (fun j hj h => hj (by have := (mem_ndRow.1 h).1; omega)) (n := c.nodes.toNat) (by omega)]
  · congr 1
    have h1 := node0_eq hc
    have h2 := at_eq hc (v := v.toNat - 1) (by omega)
    omega
  · simp only [List.mem_append, mem_singles, mem_lineA, mem_mk, mem_pk]; omega
theorem lay_nodes (c : Cfg) : c.lay.nodes = c.nodes := rfl
theorem roomOf_eq (hc : c.Ok) {v : Int} (hp : 1 ≤ v) (hq : v ≤ c.nodes) : c.lay.roomOf v = (c.rooms c.nodes.toNat).getD (v.toNat - 1) 0 ∧ 1 ≤ c.lay.roomOf v ∧ c.lay.roomOf v ≤ 16 := by
  have e : c.lay.roomOf v = (c.rooms c.nodes.toNat).getD (v.toNat - 1) 0 := by
    unfold Lay.roomOf; rw [lay_nodes, if_pos ⟨hp, hq⟩]; rfl
  have hl : v.toNat - 1 < (c.rooms c.nodes.toNat).length := by rw [Cfg.rooms_len]; omega
  have := Cfg.rooms_pos c hc.cells _ (getD_mem _ _ hl)
  exact ⟨e, by rw [e]; exact this.1, by rw [e]; exact this.2⟩
theorem at_pos (hc : c.Ok) {v : Nat} (hv : v < c.nodes.toNat) : 0 ≤ c.lay.at_.getD v 0 := by
  rw [at_eq hc hv]; have := node0_pos hc; omega
theorem roomOf_out (c : Cfg) {v : Int} (h : ¬ (1 ≤ v ∧ v ≤ c.nodes)) : c.lay.roomOf v = 0 := by
  unfold Lay.roomOf; rw [lay_nodes, if_neg h]
theorem place_word (hc : c.Ok) (j v : Int) (hj : 0 ≤ j ∧ j ≤ 3) : c.place (14 + j, v, 0) = c.lay.node v j := by
  unfold Lay.node
  by_cases h : 1 ≤ v ∧ v ≤ c.nodes
  · obtain ⟨h1, h2, h3⟩ := roomOf_eq hc h.1 h.2
    have h4 := at_pos hc (v := v.toNat - 1) (by omega)
    rw [if_neg (by omega), place_node_aux hc h.1 h.2 (by rw [mem_ndRow]; omega)]
    have e : ((v.toNat - 1 : Nat) : Int) + 1 = v := by omega
    generalize c.lay.at_.getD (v.toNat - 1) 0 = q at h4 ⊢
    simp only [ndRow, e]
    have : j = 0 ∨ j = 1 ∨ j = 2 ∨ j = 3 := by omega
    rcases this with rfl | rfl | rfl | rfl
    all_goals simp [plc]
    all_goals omega
  · rw [if_pos (roomOf_out c h)]
    unfold place
    rw [plc_none]
    rw [mem_things]
    have hn := hc.some
    rintro (h' | h' | h' | h' | h' | h') <;> omega
theorem place_header (hc : c.Ok) (v : Int) : c.place (14, v, 0) = c.lay.header v := place_word hc 0 v (by omega)
theorem place_state (hc : c.Ok) (v : Int) : c.place (15, v, 0) = c.lay.state v := place_word hc 1 v (by omega)
theorem place_mark (hc : c.Ok) (v : Int) : c.place (16, v, 0) = c.lay.mark v := place_word hc 2 v (by omega)
theorem place_next (hc : c.Ok) (v : Int) : c.place (17, v, 0) = c.lay.next v := place_word hc 3 v (by omega)
theorem place_slot (hc : c.Ok) (v i : Int) : c.place (18, v, i) = c.lay.slot v i := by
  unfold Lay.slot
  by_cases h : 1 ≤ v ∧ v ≤ c.nodes
  · obtain ⟨h1, h2, h3⟩ := roomOf_eq hc h.1 h.2
    have h4 := at_pos hc (v := v.toNat - 1) (by omega)
    by_cases hi : 0 ≤ i ∧ i < c.lay.roomOf v
    · rw [if_pos hi]
      unfold Lay.node
      rw [if_neg (by omega), place_node_aux hc h.1 h.2 (by rw [mem_ndRow, ← h1]; omega)]
      have e : ((v.toNat - 1 : Nat) : Int) + 1 = v := by omega
      obtain ⟨b, rfl⟩ := Int.eq_ofNat_of_zero_le hi.1
      generalize c.lay.at_.getD (v.toNat - 1) 0 = q at h4 ⊢
      unfold ndRow
      rw [e, plc_right (by simp), plc_lineB (by rw [← h1]; omega)]
      simp
      omega
    · rw [if_neg hi]
      unfold place
      rw [plc_none]
      rw [mem_things, ← h1]
      rintro (h' | h' | h' | h' | h' | h') <;> omega
  · have hr := roomOf_out c h
    rw [if_neg (by omega)]
    unfold place
    rw [plc_none]
    rw [mem_things]
    rintro (h' | h' | h' | h' | h' | h') <;> omega
end Cfg
end Go.Proofs.Ytcgnficlcgmffaa
