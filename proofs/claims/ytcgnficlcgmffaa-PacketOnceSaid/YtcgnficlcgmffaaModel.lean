/-
  What memory and machines know, and their steps, as plain functions.
-/
import Derived.WalkKit
namespace Go.Proofs.Ytcgnficlcgmffaa
open Go.RowKit

/-! ### Words -/
/-- A list's number at a place; 0 beyond. -/
def ld (l : List Int) (at_ : Int) : Int := if 0 ≤ at_ ∧ at_ < l.length then l.getD at_.toNat 0 else 0
def pt (l : List Int) (at_ v : Int) : List Int := if 0 ≤ at_ ∧ at_ < l.length then l.set at_.toNat v else l
@[simp] theorem pt_length (l : List Int) (at_ v : Int) : (pt l at_ v).length = l.length := by unfold pt; split <;> simp
/-- A number of 64 bits; of 32. -/
def U64 (x : Int) : Prop := 0 ≤ x ∧ x < 18446744073709551616
def U32 (x : Int) : Prop := 0 ≤ x ∧ x < 4294967296
def wHi (x : Int) : Int := x / 4294967296
def wLo (x : Int) : Int := x % 4294967296
def wPair (h l : Int) : Int := h * 4294967296 + l
def wTurn (x l : Int) : Int := wPair ((wHi x + 1) % 4294967296) l
def wAhead (a b : Int) : Int := wrap64 (IntKind.u64.wrap (a - b))
theorem wHi_u32 {x : Int} (h : U64 x) : U32 (wHi x) := by unfold U64 at h; unfold U32 wHi; omega
theorem wLo_u32 (x : Int) : U32 (wLo x) := by unfold U32 wLo; omega
theorem wPair_u64 {h l : Int} (a : U32 h) (b : U32 l) : U64 (wPair h l) := by unfold U32 at a b; unfold U64 wPair; omega
theorem wTurn_u64 {x l : Int} (b : U32 l) : U64 (wTurn x l) := wPair_u64 (by unfold U32; omega) b
theorem wraps_u64' (n : Int) (h₀ : 0 ≤ n) (h₁ : n < 2 ^ 64) : IntKind.u64.wrap n = n := IntWalk.u64_in n (by omega)
theorem and_low32 {x : Int} (h : U64 x) : bits .and .u64 x 4294967295 = x % 4294967296 := by
  unfold U64 at h
  exact bits_mask .u64 64 (by decide) wraps_u64' 32 (by decide) x h.1 (by omega)
theorem and_low3 {x : Int} (h : U64 x) : bits .and .u64 x 7 = x % 8 := by
  unfold U64 at h
  exact bits_mask .u64 64 (by decide) wraps_u64' 3 (by decide) x h.1 (by omega)

/-- A memory: the blocks s (the struct) and sb (its words), spare room, how many accesses there were. -/
structure St where
  s : Nat
  sb : Nat
  spare : List Value
  mem : List Int
  n : Int
def St.tick (σ : St) : St := { σ with n := wrap64 (σ.n + 1) }
def St.load (σ : St) (at_ : Int) : Int := ld σ.mem at_
def St.put (σ : St) (at_ v : Int) : St := { σ with n := wrap64 (σ.n + 1), mem := pt σ.mem at_ v }
theorem pt_mem {l : List Int} {a v x : Int} (h : x ∈ pt l a v) : x ∈ l ∨ x = v := by
  unfold pt at h
  split at h
  · exact List.mem_or_eq_of_mem_set h
  · exact .inl h
theorem wrap_u64 (x : Int) : U64 (IntKind.u64.wrap x) := by
  rw [IntKind.wrap_u64]; unfold U64; omega
/-- Swap: was it 'old' (at a place that is there)? -/
def St.swaps (σ : St) (at_ old : Int) : Bool := decide (0 ≤ at_ ∧ at_ < σ.mem.length ∧ σ.load at_ = old)
def St.swap (σ : St) (at_ old v : Int) : St := if σ.swaps at_ old then σ.put at_ v else σ.tick
@[simp] theorem St.tick_s (σ : St) : σ.tick.s = σ.s := rfl
@[simp] theorem St.tick_sb (σ : St) : σ.tick.sb = σ.sb := rfl
@[simp] theorem St.tick_len (σ : St) : σ.tick.mem.length = σ.mem.length := rfl
@[simp] theorem St.put_s (σ : St) (a v : Int) : (σ.put a v).s = σ.s := rfl
@[simp] theorem St.put_sb (σ : St) (a v : Int) : (σ.put a v).sb = σ.sb := rfl
@[simp] theorem St.put_len (σ : St) (a v : Int) : (σ.put a v).mem.length = σ.mem.length := by simp [St.put]
@[simp] theorem St.swap_s (σ : St) (a o v : Int) : (σ.swap a o v).s = σ.s := by unfold St.swap; split <;> rfl
@[simp] theorem St.swap_sb (σ : St) (a o v : Int) : (σ.swap a o v).sb = σ.sb := by unfold St.swap; split <;> rfl
@[simp] theorem St.swap_len (σ : St) (a o v : Int) : (σ.swap a o v).mem.length = σ.mem.length := by unfold St.swap; split <;> simp
def St.add (σ : St) (at_ v : Int) : St := σ.put at_ (IntKind.u64.wrap (σ.load at_ + v))
@[simp] theorem St.add_s (σ : St) (a v : Int) : (σ.add a v).s = σ.s := rfl
@[simp] theorem St.add_sb (σ : St) (a v : Int) : (σ.add a v).sb = σ.sb := rfl
@[simp] theorem St.add_len (σ : St) (a v : Int) : (σ.add a v).mem.length = σ.mem.length := by simp [St.add]
structure Cfg where
  (c0 c1 c2 c3 c4 markers mutators deque chunk buffer roots sweep : Int)
deriving DecidableEq
def Cfg.cells (c : Cfg) : List Int := [c.c0, c.c1, c.c2, c.c3, c.c4]
/-- What a map knows. -/
structure Lay where
  c : Cfg
  (ack head deques packets node0 nodes many parts all : Int)
  at_ : List Int
  room : List Int
/-- Its numbers are small and fit each other. -/
structure Lay.Ok (L : Lay) : Prop where
  ack : 0 ≤ L.ack ∧ L.ack ≤ 100000
  head : 0 ≤ L.head ∧ L.head ≤ 100000
  deques : 0 ≤ L.deques ∧ L.deques ≤ 100000
  packets : 0 ≤ L.packets ∧ L.packets ≤ 100000
  nodes : 1 ≤ L.nodes ∧ L.nodes ≤ 60
  many : 0 ≤ L.many ∧ L.many ≤ 10000
  parts : 1 ≤ L.parts ∧ L.parts ≤ 60
  all : 0 ≤ L.all ∧ L.all ≤ 200000
  markers : 1 ≤ L.c.markers ∧ L.c.markers ≤ 4
  mutators : 1 ≤ L.c.mutators ∧ L.c.mutators ≤ 4
  deque : 2 ≤ L.c.deque ∧ L.c.deque ≤ 8
  chunk : 1 ≤ L.c.chunk ∧ L.c.chunk ≤ 16
  buffer : 1 ≤ L.c.buffer ∧ L.c.buffer ≤ 4
  roots : 1 ≤ L.c.roots ∧ L.c.roots ≤ 8
  sweep : 1 ≤ L.c.sweep ∧ L.c.sweep ≤ 16
  cells : ∀ x ∈ L.c.cells, 0 ≤ x ∧ x ≤ 12
  lat : (L.at_.length : Int) = L.nodes
  lroom : (L.room.length : Int) = L.nodes
  bat : ∀ x ∈ L.at_, 0 ≤ x ∧ x ≤ 100000
  broom : ∀ x ∈ L.room, 1 ≤ x ∧ x ≤ 16

/-! ### What the getters tell -/
namespace Lay
variable (L : Lay)
def ackAt (i : Int) : Int := if 0 ≤ i ∧ i < L.c.mutators then L.ack + i else -1
def headAt (k : Int) : Int := if 0 ≤ k ∧ k < 5 then L.head + k else -1
def endAt (i j : Int) : Int := if 0 ≤ i ∧ i < L.c.markers then L.deques + i * (2 + L.c.deque) + j else -1
def top (i : Int) : Int := L.endAt i 0
def bottom (i : Int) : Int := L.endAt i 1
def entry (i j : Int) : Int := if 0 ≤ j ∧ j < L.c.deque then L.endAt i (2 + j) else -1
def packet (p j : Int) : Int := if 1 ≤ p ∧ p ≤ L.many then L.packets + (p - 1) * 6 + j else -1
def manyAt (p : Int) : Int := L.packet p 0
def link (p : Int) : Int := L.packet p 1
def task (p j : Int) : Int := if 0 ≤ j ∧ j < 4 then L.packet p (2 + j) else -1
def roomOf (v : Int) : Int := if 1 ≤ v ∧ v ≤ L.nodes then L.room.getD (v.toNat - 1) 0 else 0
def node (v j : Int) : Int := if L.roomOf v = 0 then -1 else L.at_.getD (v.toNat - 1) 0 + j
def header (v : Int) : Int := L.node v 0
def state (v : Int) : Int := L.node v 1
def mark (v : Int) : Int := L.node v 2
def next (v : Int) : Int := L.node v 3
def slot (v i : Int) : Int := if 0 ≤ i ∧ i < L.roomOf v then L.node v (4 + i) else -1
end Lay

theorem getD_mem (l : List Int) (i : Nat) (h : i < l.length) : l.getD i 0 ∈ l := by
  rw [List.getD_eq_getElem?_getD, List.getElem?_eq_getElem h]; exact List.getElem_mem h
/-- What a machine of a stack knows; pc: 0 finished, 1 to 3 a push, 4 to 6 a pop. -/
structure SM where
  head : Int
  item : Int
  h : Int
  link : Int
  tries : Int
  pc : Nat
structure SM.Ok (m : SM) : Prop where
  item : U32 m.item
  h : U64 m.h
  link : U32 m.link
def pcIf (c : Bool) (k : Nat) : Nat := if c then 0 else k
def SM.step (lk : Int → Int) (σ : St) (m : SM) : St × SM :=
  match m.pc with
  | 1 => (σ.tick, { m with h := σ.load m.head, link := wLo (σ.load m.head), tries := wrap64 (m.tries + 1), pc := 2 })
  | 2 => (σ.put (lk m.item) m.link, { m with pc := 3 })
  | 3 => (σ.swap m.head m.h (wTurn m.h m.item), { m with pc := pcIf (σ.swaps m.head m.h) 1 })
  | 4 => (σ.tick, { m with h := σ.load m.head, item := wLo (σ.load m.head), tries := wrap64 (m.tries + 1), pc := pcIf (decide (wLo (σ.load m.head) = 0)) 5 })
  | 5 => (σ.tick, { m with link := σ.load (lk m.item) % 4294967296, pc := 6 })
  | 6 => (σ.swap m.head m.h (wTurn m.h m.link), { m with pc := pcIf (σ.swaps m.head m.h) 4 })
  | _ => (σ, m)

/-- What a machine of packets knows; pc: 0 finished, 1 a spare one is taken, 2 tasks, 3 how many, 4 the last stack. -/
structure PM where
  tasks : List Int
  j : Nat
  p : Int
  x : SM
  pc : Nat
structure PM.Ok (m : PM) : Prop where
  tasks : ∀ v ∈ m.tasks, U64 v
  len : m.tasks.length ≤ 4
  p : U32 m.p
  x : m.x.pc ≤ 6
  pc : m.pc ≤ 4
  j : m.j ≤ 4
  j2 : m.pc = 1 ∨ m.pc = 2 → m.j < m.tasks.length
def popSM (head : Int) : SM := ⟨head, 0, 0, 0, 0, 4⟩
def pushSM (head item : Int) : SM := ⟨head, item, 0, 0, 0, 1⟩
/-- A step. -/
def PM.step (L : Lay) (σ : St) (m : PM) : St × PM :=
  match m.pc with
  | 1 =>
    let q := SM.step L.link σ m.x
    if q.2.pc = 0 then
      if q.2.item = 0 then (q.1, { m with p := 0, x := popSM 5, pc := 1 }) else (q.1, { m with p := q.2.item, x := q.2, pc := 2 })
    else (q.1, { m with x := q.2 })
  | 2 => (σ.put (L.task m.p m.j) (m.tasks.getD m.j 0), { m with j := m.j + 1, pc := if m.j + 1 = m.tasks.length then 3 else 2 })
  | 3 => (σ.put (L.manyAt m.p) m.tasks.length, { m with x := pushSM 4 m.p, pc := 4 })
  | 4 =>
    let q := SM.step L.link σ m.x
    if q.2.pc = 0 then (q.1, { m with p := q.2.item, x := q.2, pc := 0 }) else (q.1, { m with x := q.2 })
  | _ => (σ, m)

theorem PM.step_pc (L : Lay) (σ : St) (m : PM) (h : m.pc ≤ 4) : (PM.step L σ m).2.pc ≤ 4 := by
  unfold PM.step
  split
  · simp only; split <;> (try split) <;> simp <;> omega
  · simp only; split <;> omega
  · simp
  · simp only; split <;> simp
    omega
  · exact h

def PM.put (ts : List Int) : PM := ⟨ts.take 4, 0, 0, popSM 5, if ts = [] then 0 else 1⟩
def PM.take : PM := ⟨[], 0, 0, popSM 4, 4⟩
def PM.back (L : Lay) (p : Int) : PM := ⟨[], 0, 0, pushSM 5 p, if 0 ≤ L.link p then 4 else 0⟩
end Go.Proofs.Ytcgnficlcgmffaa
