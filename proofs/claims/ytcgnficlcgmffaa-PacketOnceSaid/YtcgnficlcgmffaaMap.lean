/-
  Package layout: where things stand in memory: the getters' contracts.
-/
import Derived.Test.YtcgnficlcgmffaaChecked
import Derived.Test.YtcgnficlcgmffaaBase
namespace Go.Proofs.Ytcgnficlcgmffaa
open Go.RowKit


def Cfg.vals (c : Cfg) : List Value := [.int .i64 c.c0, .int .i64 c.c1, .int .i64 c.c2, .int .i64 c.c3, .int .i64 c.c4, .int .i64 c.markers, .int .i64 c.mutators, .int .i64 c.deque, .int .i64 c.chunk, .int .i64 c.buffer, .int .i64 c.roots, .int .i64 c.sweep]
/-- Where a map lies. -/
structure Mp where
  L : Lay
  (m ab rb : Nat)
  (aspare rspare : List Value)
def Mp.cells (μ : Mp) : List Value :=
  [.int .i64 μ.L.ack, .int .i64 μ.L.head, .int .i64 μ.L.deques, .int .i64 μ.L.packets, .int .i64 μ.L.node0, .int .i64 μ.L.nodes, .int .i64 μ.L.many, .int .i64 μ.L.parts, .int .i64 μ.L.all] ++ μ.L.c.vals ++
  [.slice (some ⟨μ.ab, 0, none⟩) μ.L.at_.length (μ.L.at_.length + μ.aspare.length), .slice (some ⟨μ.rb, 0, none⟩) μ.L.room.length (μ.L.room.length + μ.rspare.length)]
structure IsMap (w : World) (μ : Mp) : Prop where
  hm : Blk w μ.m μ.cells 111
  ha : Blk w μ.ab (i64s μ.L.at_ ++ μ.aspare) 3
  hr : Blk w μ.rb (i64s μ.L.room ++ μ.rspare) 3
  ok : μ.L.Ok
theorem IsMap.ext {w w' : World} {μ : Mp} {S : List Nat} (h : IsMap w μ) (he : Ext S w w') (h1 : μ.m ∉ S) (h2 : μ.ab ∉ S) (h3 : μ.rb ∉ S) : IsMap w' μ := ⟨h.hm.ext he h1, h.ha.ext he h2, h.hr.ext he h3, h.ok⟩
theorem IsMap.ext0 {w w' : World} {μ : Mp} (h : IsMap w μ) (he : Ext [] w w') : IsMap w' μ := h.ext he (by simp) (by simp) (by simp)
theorem IsMap.drewN {w : World} {μ : Mp} (h : IsMap w μ) (n : Nat) : IsMap (w.drewN n) μ := ⟨h.hm, h.ha, h.hr, h.ok⟩
def Mp.ptr (μ : Mp) : Value := .pointer (some ⟨μ.m, 0, none⟩)

section
variable {w : World} {μ : Mp} (h : IsMap w μ)
include h
theorem IsMap.room_cell {v : Int} (h1 : 1 ≤ v) (h2 : v ≤ μ.L.nodes) : w.cell? ⟨μ.rb, (v.toNat - 1), none⟩ = some (.int .i64 (μ.L.room.getD (v.toNat - 1) 0)) := by
  have hl := h.ok.lroom
  have h3 : (v.toNat - 1) < μ.L.room.length := by omega
  rw [h.hr.cells, List.getElem?_append_left (by simpa using h3), i64s_get _ _ h3]
theorem IsMap.at_cell {v : Int} (h1 : 1 ≤ v) (h2 : v ≤ μ.L.nodes) : w.cell? ⟨μ.ab, (v.toNat - 1), none⟩ = some (.int .i64 (μ.L.at_.getD (v.toNat - 1) 0)) := by
  have hl := h.ok.lat
  have h3 : (v.toNat - 1) < μ.L.at_.length := by omega
  rw [h.ha.cells, List.getElem?_append_left (by simpa using h3), i64s_get _ _ h3]
theorem IsMap.room_in {v : Int} (h1 : 1 ≤ v) (h2 : v ≤ μ.L.nodes) : 1 ≤ μ.L.roomOf v ∧ μ.L.roomOf v ≤ 16 := by
  have hl := h.ok.lroom
  have h3 : (v.toNat - 1) < μ.L.room.length := by omega
  have := h.ok.broom (μ.L.room.getD (v.toNat - 1) 0) (getD_mem _ _ h3)
  simpa [Lay.roomOf, h1, h2] using this
theorem IsMap.at_in {v : Int} (h1 : 1 ≤ v) (h2 : v ≤ μ.L.nodes) : 0 ≤ μ.L.at_.getD (v.toNat - 1) 0 ∧ μ.L.at_.getD (v.toNat - 1) 0 ≤ 100000 := by
  have hl := h.ok.lat
  have h3 : (v.toNat - 1) < μ.L.at_.length := by omega
  exact h.ok.bat _ (getD_mem _ _ h3)

omit h in
theorem Single_c (a : Int) : Calls Try.prog 118 #[μ.ptr, .int .i64 a] w fun e w' => e = .returned (.int .i64 a) ∧ w = w' := by
  unfold Mp.ptr
  go_enter Try.func118, Try.ntmps118
  go_wp2
  go_ret
  exact ⟨rfl, rfl⟩
end
theorem Single_nil (a : Int) (w : World) : Calls Try.prog 118 #[.pointer none, .int .i64 a] w fun e w' => e = .returned (.int .i64 (-1)) ∧ w = w' := by
  go_enter Try.func118, Try.ntmps118
  go_wp2
  go_ret
  exact ⟨rfl, rfl⟩

theorem Work_c {w : World} {μ : Mp} (h : IsMap w μ) : Calls Try.prog 56 #[μ.ptr] w fun e w' => e = .returned (.int .i64 1) ∧ w = w' := by
  go_enter Try.func56, Try.ntmps56
  go_wp2_with (go_at_call 118; refine (Single_c _).mono ?_; rintro e w1 ⟨rfl, rfl⟩)
  go_ret
  exact ⟨rfl, rfl⟩
theorem Pool_c {w : World} {μ : Mp} (h : IsMap w μ) : Calls Try.prog 92 #[μ.ptr] w fun e w' => e = .returned (.int .i64 4) ∧ w = w' := by
  go_enter Try.func92, Try.ntmps92
  go_wp2_with (go_at_call 118; refine (Single_c _).mono ?_; rintro e w1 ⟨rfl, rfl⟩)
  go_ret
  exact ⟨rfl, rfl⟩
theorem Spare_c {w : World} {μ : Mp} (h : IsMap w μ) : Calls Try.prog 88 #[μ.ptr] w fun e w' => e = .returned (.int .i64 5) ∧ w = w' := by
  go_enter Try.func88, Try.ntmps88
  go_wp2_with (go_at_call 118; refine (Single_c _).mono ?_; rintro e w1 ⟨rfl, rfl⟩)
  go_ret
  exact ⟨rfl, rfl⟩

section
variable {w : World} {μ : Mp} (h : IsMap w μ)
include h
theorem Packet_c (p j : Int) (hj : 0 ≤ j ∧ j ≤ 10) : Calls Try.prog 101 #[μ.ptr, .int .i64 p, .int .i64 j] w fun e w' => e = .returned (.int .i64 (μ.L.packet p j)) ∧ w = w' := by
  unfold Mp.ptr
  have h3 := h.hm.cell 3 (v := .int .i64 μ.L.packets) rfl
  have h6 := h.hm.cell 6 (v := .int .i64 μ.L.many) rfl
  obtain ⟨b1, b2⟩ := h.ok.packets
  obtain ⟨b3, b4⟩ := h.ok.many
  obtain ⟨b5, b6⟩ := hj
  by_cases hp : 1 ≤ p
  · by_cases hq : p ≤ μ.L.many
    · have e : μ.L.packet p j = μ.L.packets + (p - 1) * 6 + j := by simp [Lay.packet, hp, hq]
      rw [e]
      clear e h
      go_enter Try.func101, Try.ntmps101
      go_wp2
      go_ret
      exact ⟨rfl, rfl⟩
    · have e : μ.L.packet p j = -1 := by simp [Lay.packet, hq]
      rw [e]
      clear e h
      go_enter Try.func101, Try.ntmps101
      go_wp2
      go_ret
      exact ⟨rfl, rfl⟩
  · have e : μ.L.packet p j = -1 := by simp [Lay.packet, hp]
    rw [e]
    clear e h
    go_enter Try.func101, Try.ntmps101
    go_wp2
    go_ret
    exact ⟨rfl, rfl⟩

theorem End_c (i j : Int) (hj : 0 ≤ j ∧ j ≤ 20) : Calls Try.prog 112 #[μ.ptr, .int .i64 i, .int .i64 j] w fun e w' => e = .returned (.int .i64 (μ.L.endAt i j)) ∧ Dr w w' := by
  unfold Mp.ptr
  have h2 := h.hm.cell 2 (v := .int .i64 μ.L.deques) rfl
  have h14 := h.hm.cell 14 (v := .int .i64 μ.L.c.markers) rfl
  have h16 := h.hm.cell 16 (v := .int .i64 μ.L.c.deque) rfl
  obtain ⟨b1, b2⟩ := h.ok.deques
  obtain ⟨b3, b4⟩ := h.ok.markers
  obtain ⟨b5, b6⟩ := h.ok.deque
  obtain ⟨b7, b8⟩ := hj
  by_cases hp : 0 ≤ i
  · by_cases hq : i < μ.L.c.markers
    · have e : μ.L.endAt i j = μ.L.deques + i * (2 + μ.L.c.deque) + j := by simp [Lay.endAt, hp, hq]
      have m1 : 0 ≤ i * (2 + μ.L.c.deque) := Int.mul_nonneg hp (by omega)
      have m2 : i * (2 + μ.L.c.deque) ≤ 4 * (2 + μ.L.c.deque) := Int.mul_le_mul_of_nonneg_right (by omega) (by omega)
      have m3 : IntKind.i64.wrap (i * (2 + μ.L.c.deque)) = i * (2 + μ.L.c.deque) := IntWalk.i64_in _ (by omega)
      have m4 : IntKind.i64.wrap (2 + μ.L.c.deque) = 2 + μ.L.c.deque := IntWalk.i64_in _ (by omega)
      have m5 : IntKind.i64.wrap (μ.L.deques + i * (2 + μ.L.c.deque)) = μ.L.deques + i * (2 + μ.L.c.deque) := IntWalk.i64_in _ (by omega)
      have m6 : IntKind.i64.wrap (μ.L.deques + i * (2 + μ.L.c.deque) + j) = μ.L.deques + i * (2 + μ.L.c.deque) + j := IntWalk.i64_in _ (by omega)
      rw [e]
      clear e h m1 m2
      go_enter Try.func112, Try.ntmps112
      go_wp2
      go_quiet (fail)
      go_wp2
      go_ret
      exact ⟨rfl, nq, rfl⟩
    · have e : μ.L.endAt i j = -1 := by simp [Lay.endAt, hq]
      rw [e]
      clear e h
      go_enter Try.func112, Try.ntmps112
      go_wp2
      go_ret
      exact ⟨rfl, 0, rfl⟩
  · have e : μ.L.endAt i j = -1 := by simp [Lay.endAt, hp]
    rw [e]
    clear e h
    go_enter Try.func112, Try.ntmps112
    go_wp2
    go_ret
    exact ⟨rfl, 0, rfl⟩

/-! ### Rooms and places of nodes -/
theorem Room_c (v : Int) : Calls Try.prog 72 #[μ.ptr, .int .i64 v] w fun e w' => e = .returned (.int .i64 (μ.L.roomOf v)) ∧ w = w' := by
  unfold Mp.ptr
  have h5 := h.hm.cell 5 (v := .int .i64 μ.L.nodes) rfl
  have h22 := h.hm.cell 22 (v := .slice (some ⟨μ.rb, 0, none⟩) μ.L.room.length (μ.L.room.length + μ.rspare.length)) rfl
  obtain ⟨b1, b2⟩ := h.ok.nodes
  have hl := h.ok.lroom
  by_cases hp : 1 ≤ v
  · by_cases hq : v ≤ μ.L.nodes
    · have e : μ.L.roomOf v = μ.L.room.getD (v.toNat - 1) 0 := by simp only [Lay.roomOf]; rw [if_pos ⟨hp, hq⟩]
      have hc := h.room_cell hp hq
      have hl1 : v - 1 < (μ.L.room.length : Int) := by omega
      have hl2 : 0 ≤ v - 1 := by omega
      rw [e]
      clear e h hl
      go_enter Try.func72, Try.ntmps72
      go_wp2
      go_ret
      exact ⟨rfl, rfl⟩
    · have e : μ.L.roomOf v = 0 := by simp [Lay.roomOf, hq]
      rw [e]
      clear e h hl
      go_enter Try.func72, Try.ntmps72
      go_wp2
      go_ret
      exact ⟨rfl, rfl⟩
  · have e : μ.L.roomOf v = 0 := by simp [Lay.roomOf, hp]
    rw [e]
    clear e h hl
    go_enter Try.func72, Try.ntmps72
    go_wp2
    go_ret
    exact ⟨rfl, rfl⟩

theorem Node_c (v j : Int) (hj : 0 ≤ j ∧ j ≤ 30) : Calls Try.prog 117 #[μ.ptr, .int .i64 v, .int .i64 j] w fun e w' => e = .returned (.int .i64 (μ.L.node v j)) ∧ w = w' := by
  have h21 := h.hm.cell 21 (v := .slice (some ⟨μ.ab, 0, none⟩) μ.L.at_.length (μ.L.at_.length + μ.aspare.length)) rfl
  obtain ⟨b1, b2⟩ := h.ok.nodes
  obtain ⟨b3, b4⟩ := hj
  have hl := h.ok.lat
  by_cases hp : 1 ≤ v ∧ v ≤ μ.L.nodes
  · obtain ⟨hp, hq⟩ := hp
    obtain ⟨r1, r2⟩ := h.room_in hp hq
    obtain ⟨a1, a2⟩ := h.at_in hp hq
    have hc := h.at_cell hp hq
    have hl1 : v - 1 < (μ.L.at_.length : Int) := by omega
    have hl2 : 0 ≤ v - 1 := by omega
    have hz : (μ.L.roomOf v == 0) = false := by rw [beq_eq_false_iff_ne]; omega
    have e : μ.L.node v j = μ.L.at_.getD (v.toNat - 1) 0 + j := by simp only [Lay.node]; rw [if_neg (by omega)]
    rw [e]
    clear e hl
    generalize μ.L.at_.getD (v.toNat - 1) 0 = q at hc a1 a2 ⊢
    go_enter Try.func117, Try.ntmps117
    go_wp2_with (go_at_call 72; refine (Room_c h _).mono ?_; rintro e w1 ⟨rfl, rfl⟩; unfold Mp.ptr)
    go_ret
    exact ⟨rfl, rfl⟩
  · have e0 : μ.L.roomOf v = 0 := by simp only [Lay.roomOf]; rw [if_neg hp]
    have e : μ.L.node v j = -1 := by simp [Lay.node, e0]
    have hR := Room_c h v
    rw [e0] at hR
    rw [e]
    clear e e0 hl
    have HR := Lib.hid hR
    clear hR
    go_enter Try.func117, Try.ntmps117
    go_wp2_with (go_at_call 72; refine HR.out.mono ?_; rintro e w1 ⟨rfl, rfl⟩)
    go_ret
    exact ⟨rfl, rfl⟩

theorem Slot_c (v i : Int) : Calls Try.prog 119 #[μ.ptr, .int .i64 v, .int .i64 i] w fun e w' => e = .returned (.int .i64 (μ.L.slot v i)) ∧ w = w' := by
  have hr : μ.L.roomOf v ≤ 16 := by
    by_cases hp : 1 ≤ v ∧ v ≤ μ.L.nodes
    · exact (h.room_in hp.1 hp.2).2
    · simp only [Lay.roomOf]; rw [if_neg hp]; omega
  by_cases hi : 0 ≤ i
  · by_cases hq : i < μ.L.roomOf v
    · have e : μ.L.slot v i = μ.L.node v (4 + i) := by simp [Lay.slot, hi, hq]
      rw [e]
      clear e
      go_enter Try.func119, Try.ntmps119
      go_wp2_with (first | (go_at_call 72; refine (Room_c h _).mono ?_; rintro e w1 ⟨rfl, rfl⟩) | (go_at_call 117; refine (Node_c h _ _ (by omega)).mono ?_; rintro e w1 ⟨rfl, rfl⟩))
      go_ret
      exact ⟨rfl, rfl⟩
    · have e : μ.L.slot v i = -1 := by simp [Lay.slot, hq]
      rw [e]
      clear e
      go_enter Try.func119, Try.ntmps119
      go_wp2_with (first | (go_at_call 72; refine (Room_c h _).mono ?_; rintro e w1 ⟨rfl, rfl⟩) | (go_at_call 117; refine (Node_c h _ _ (by omega)).mono ?_; rintro e w1 ⟨rfl, rfl⟩))
      go_ret
      exact ⟨rfl, rfl⟩
  · have e : μ.L.slot v i = -1 := by simp [Lay.slot, hi]
    rw [e]
    clear e
    go_enter Try.func119, Try.ntmps119
    go_wp2_with (first | (go_at_call 72; refine (Room_c h _).mono ?_; rintro e w1 ⟨rfl, rfl⟩) | (go_at_call 117; refine (Node_c h _ _ (by omega)).mono ?_; rintro e w1 ⟨rfl, rfl⟩))
    go_ret
    exact ⟨rfl, rfl⟩

theorem Head_c (k : Int) : Calls Try.prog 84 #[μ.ptr, .int .i64 k] w fun e w' => e = .returned (.int .i64 (μ.L.headAt k)) ∧ w = w' := by
  unfold Mp.ptr
  have h1 := h.hm.cell 1 (v := .int .i64 μ.L.head) rfl
  obtain ⟨b1, b2⟩ := h.ok.head
  by_cases hp : 0 ≤ k
  · by_cases hq : k < 5
    · have e : μ.L.headAt k = μ.L.head + k := by simp [Lay.headAt, hp, hq]
      rw [e]
      clear e h
      go_enter Try.func84, Try.ntmps84
      go_wp2
      go_ret
      exact ⟨rfl, rfl⟩
    · have e : μ.L.headAt k = -1 := by simp [Lay.headAt, hq]
      rw [e]
      clear e h
      go_enter Try.func84, Try.ntmps84
      go_wp2
      go_ret
      exact ⟨rfl, rfl⟩
  · have e : μ.L.headAt k = -1 := by simp [Lay.headAt, hp]
    rw [e]
    clear e h
    go_enter Try.func84, Try.ntmps84
    go_wp2
    go_ret
    exact ⟨rfl, rfl⟩

theorem Many_c (p : Int) : Calls Try.prog 33 #[μ.ptr, .int .i64 p] w fun e w' => e = .returned (.int .i64 (μ.L.manyAt p)) ∧ w = w' := by
  go_enter Try.func33, Try.ntmps33
  go_wp2_with (go_at_call 101; refine (Packet_c h _ _ (by omega)).mono ?_; rintro e w1 ⟨rfl, rfl⟩)
  go_ret
  exact ⟨rfl, rfl⟩

theorem Link_c (p : Int) : Calls Try.prog 81 #[μ.ptr, .int .i64 p] w fun e w' => e = .returned (.int .i64 (μ.L.link p)) ∧ w = w' := by
  go_enter Try.func81, Try.ntmps81
  go_wp2_with (go_at_call 101; refine (Packet_c h _ _ (by omega)).mono ?_; rintro e w1 ⟨rfl, rfl⟩)
  go_ret
  exact ⟨rfl, rfl⟩

theorem Header_c (p : Int) : Calls Try.prog 83 #[μ.ptr, .int .i64 p] w fun e w' => e = .returned (.int .i64 (μ.L.header p)) ∧ w = w' := by
  go_enter Try.func83, Try.ntmps83
  go_wp2_with (go_at_call 117; refine (Node_c h _ _ (by omega)).mono ?_; rintro e w1 ⟨rfl, rfl⟩)
  go_ret
  exact ⟨rfl, rfl⟩

theorem State_c (p : Int) : Calls Try.prog 82 #[μ.ptr, .int .i64 p] w fun e w' => e = .returned (.int .i64 (μ.L.state p)) ∧ w = w' := by
  go_enter Try.func82, Try.ntmps82
  go_wp2_with (go_at_call 117; refine (Node_c h _ _ (by omega)).mono ?_; rintro e w1 ⟨rfl, rfl⟩)
  go_ret
  exact ⟨rfl, rfl⟩

theorem Mark_c (p : Int) : Calls Try.prog 55 #[μ.ptr, .int .i64 p] w fun e w' => e = .returned (.int .i64 (μ.L.mark p)) ∧ w = w' := by
  go_enter Try.func55, Try.ntmps55
  go_wp2_with (go_at_call 117; refine (Node_c h _ _ (by omega)).mono ?_; rintro e w1 ⟨rfl, rfl⟩)
  go_ret
  exact ⟨rfl, rfl⟩

theorem Next_c (p : Int) : Calls Try.prog 86 #[μ.ptr, .int .i64 p] w fun e w' => e = .returned (.int .i64 (μ.L.next p)) ∧ w = w' := by
  go_enter Try.func86, Try.ntmps86
  go_wp2_with (go_at_call 117; refine (Node_c h _ _ (by omega)).mono ?_; rintro e w1 ⟨rfl, rfl⟩)
  go_ret
  exact ⟨rfl, rfl⟩

theorem Top_c (p : Int) : Calls Try.prog 108 #[μ.ptr, .int .i64 p] w fun e w' => e = .returned (.int .i64 (μ.L.top p)) ∧ Dr w w' := by
  go_enter Try.func108, Try.ntmps108
  go_wp2_with (go_at_call 112; refine (End_c h _ _ (by omega)).mono ?_; rintro e w1 ⟨rfl, nq, rfl⟩)
  go_ret
  exact ⟨rfl, nq, rfl⟩

theorem Bottom_c (p : Int) : Calls Try.prog 45 #[μ.ptr, .int .i64 p] w fun e w' => e = .returned (.int .i64 (μ.L.bottom p)) ∧ Dr w w' := by
  go_enter Try.func45, Try.ntmps45
  go_wp2_with (go_at_call 112; refine (End_c h _ _ (by omega)).mono ?_; rintro e w1 ⟨rfl, nq, rfl⟩)
  go_ret
  exact ⟨rfl, nq, rfl⟩

theorem Task_c (p j : Int) : Calls Try.prog 32 #[μ.ptr, .int .i64 p, .int .i64 j] w fun e w' => e = .returned (.int .i64 (μ.L.task p j)) ∧ w = w' := by
  by_cases hj : 0 ≤ j
  · by_cases hq : j < 4
    · have e : μ.L.task p j = μ.L.packet p (2 + j) := by simp [Lay.task, hj, hq]
      rw [e]
      clear e
      go_enter Try.func32, Try.ntmps32
      go_wp2_with (go_at_call 101; refine (Packet_c h _ _ (by omega)).mono ?_; rintro e w1 ⟨rfl, rfl⟩)
      go_ret
      exact ⟨rfl, rfl⟩
    · have e : μ.L.task p j = -1 := by simp [Lay.task, hq]
      rw [e]
      clear e
      go_enter Try.func32, Try.ntmps32
      go_wp2
      go_ret
      exact ⟨rfl, rfl⟩
  · have e : μ.L.task p j = -1 := by simp [Lay.task, hj]
    rw [e]
    clear e
    go_enter Try.func32, Try.ntmps32
    go_wp2
    go_ret
    exact ⟨rfl, rfl⟩

theorem Entry_c (i j : Int) : Calls Try.prog 46 #[μ.ptr, .int .i64 i, .int .i64 j] w fun e w' => e = .returned (.int .i64 (μ.L.entry i j)) ∧ Dr w w' := by
  have h16 := h.hm.cell 16 (v := .int .i64 μ.L.c.deque) rfl
  obtain ⟨b5, b6⟩ := h.ok.deque
  by_cases hj : 0 ≤ j
  · by_cases hq : j < μ.L.c.deque
    · have e : μ.L.entry i j = μ.L.endAt i (2 + j) := by simp [Lay.entry, hj, hq]
      rw [e]
      clear e
      have HE := Lib.hid (fun w' hw' => End_c (w := w') (μ := μ) hw' i (2 + j) (by omega))
      unfold Mp.ptr at HE ⊢
      go_enter Try.func46, Try.ntmps46
      go_wp2_with (go_at_call 112; refine (HE.out _ h).mono ?_; rintro e w1 ⟨rfl, nq, rfl⟩)
      go_ret
      exact ⟨rfl, nq, rfl⟩
    · have e : μ.L.entry i j = -1 := by simp [Lay.entry, hq]
      rw [e]
      unfold Mp.ptr
      clear e h
      go_enter Try.func46, Try.ntmps46
      go_wp2
      go_ret
      exact ⟨rfl, 0, rfl⟩
  · have e : μ.L.entry i j = -1 := by simp [Lay.entry, hj]
    rw [e]
    unfold Mp.ptr
    clear e h
    go_enter Try.func46, Try.ntmps46
    go_wp2
    go_ret
    exact ⟨rfl, 0, rfl⟩

theorem Nodes_c : Calls Try.prog 51 #[μ.ptr] w fun e w' => e = .returned (.int .i64 μ.L.nodes) ∧ w = w' := by
  unfold Mp.ptr
  have h5 := h.hm.cell 5 (v := .int .i64 μ.L.nodes) rfl
  clear h
  go_enter Try.func51, Try.ntmps51
  go_wp2
  go_ret
  exact ⟨rfl, rfl⟩

theorem Common_c : Calls Try.prog 73 #[μ.ptr] w fun e w' => e = .returned (.int .i64 μ.L.nodes) ∧ w = w' := by
  go_enter Try.func73, Try.ntmps73
  go_wp2_with (go_at_call 51; refine (Nodes_c h).mono ?_; rintro e w1 ⟨rfl, rfl⟩)
  go_ret
  exact ⟨rfl, rfl⟩

theorem Packets_c : Calls Try.prog 27 #[μ.ptr] w fun e w' => e = .returned (.int .i64 μ.L.many) ∧ w = w' := by
  unfold Mp.ptr
  have h5 := h.hm.cell 6 (v := .int .i64 μ.L.many) rfl
  clear h
  go_enter Try.func27, Try.ntmps27
  go_wp2
  go_ret
  exact ⟨rfl, rfl⟩

theorem Config_c : Calls Try.prog 151 #[μ.ptr] w fun e w' => e = .returned (.agg μ.L.c.vals.toArray) ∧ Ext [] w w' := by
  unfold Mp.ptr
  have c9 := h.hm.cell 9 (v := .int .i64 μ.L.c.c0) rfl
  have c10 := h.hm.cell 10 (v := .int .i64 μ.L.c.c1) rfl
  have c11 := h.hm.cell 11 (v := .int .i64 μ.L.c.c2) rfl
  have c12 := h.hm.cell 12 (v := .int .i64 μ.L.c.c3) rfl
  have c13 := h.hm.cell 13 (v := .int .i64 μ.L.c.c4) rfl
  have c14 := h.hm.cell 14 (v := .int .i64 μ.L.c.markers) rfl
  have c15 := h.hm.cell 15 (v := .int .i64 μ.L.c.mutators) rfl
  have c16 := h.hm.cell 16 (v := .int .i64 μ.L.c.deque) rfl
  have c17 := h.hm.cell 17 (v := .int .i64 μ.L.c.chunk) rfl
  have c18 := h.hm.cell 18 (v := .int .i64 μ.L.c.buffer) rfl
  have c19 := h.hm.cell 19 (v := .int .i64 μ.L.c.roots) rfl
  have c20 := h.hm.cell 20 (v := .int .i64 μ.L.c.sweep) rfl
  have hlt := h.hm.lt
  have hne : μ.m ≠ w.heap.size := by omega
  clear h
  go_enter Try.func151, Try.ntmps151
  go_wp2
  refine bodyPost_ret (v := .agg μ.L.c.vals.toArray) ?_ rfl ⟨rfl, ?_⟩
  · simp [results, go_sem, Cfg.vals]
  · exact (Ext.refl _ _).alloc _
end
end Go.Proofs.Ytcgnficlcgmffaa
