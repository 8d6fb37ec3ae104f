/-
  Package sizes; layout.Check: contracts.
-/
import Derived.Handy
import Derived.Test.YtcgnficlcgmffaaMap
import Derived.Test.YtcgnficlcgmffaaLay
namespace Go.Proofs.Ytcgnficlcgmffaa
open Go.RowKit

theorem sIs_c (k : Int) (w : World) : Calls Try.prog 139 #[.int .i64 k] w fun e w' => e = .returned (.bool (decide (0 ≤ k ∧ k < 5))) ∧ w = w' := by
  by_cases h1 : 0 ≤ k
  · by_cases h2 : k < 5
    · have e : decide (0 ≤ k ∧ k < 5) = true := by simp [h1, h2]
      rw [e]
      go_enter Try.func139, Try.ntmps139
      go_wp2
      go_ret
      simp [h1, h2]
    · have e : decide (0 ≤ k ∧ k < 5) = false := by simp [h2]
      rw [e]
      go_enter Try.func139, Try.ntmps139
      go_wp2
      go_ret
      simp [h2]
  · have e : decide (0 ≤ k ∧ k < 5) = false := by simp [h1]
    rw [e]
    go_enter Try.func139, Try.ntmps139
    go_wp2
    go_ret
    simp [h1]
theorem Slots_in (k : Int) (h : 0 ≤ k ∧ k < 5) (w : World) : Calls Try.prog 77 #[.int .i64 k] w fun e w' => e = .returned (.int .i64 (slotsOf k)) ∧ w = w' := by
  have hk : k = 0 ∨ k = 1 ∨ k = 2 ∨ k = 3 ∨ k = 4 := by omega
  rcases hk with rfl | rfl | rfl | rfl | rfl
  all_goals
    go_enter Try.func77, Try.ntmps77
    go_wp2_with (go_at_call 139; refine (sIs_c _ _).mono ?_; rintro e w1 ⟨rfl, rfl⟩)
    go_ret
    exact ⟨rfl, rfl⟩
theorem Slots_out (k : Int) (h : ¬ (0 ≤ k ∧ k < 5)) (w : World) : Calls Try.prog 77 #[.int .i64 k] w fun e w' => e = .returned (.int .i64 (slotsOf k)) ∧ w = w' := by
  have hb : decide (0 ≤ k ∧ k < 5) = false := by simpa using h
  have hs : slotsOf k = 0 := by unfold slotsOf; repeat (rw [if_neg (by omega)])
  rw [hs]
  have HI := Lib.hid (sIs_c k)
  rw [hb] at HI
  clear hb hs h
  go_enter Try.func77, Try.ntmps77
  go_wp2_with (go_at_call 139; refine (HI.out _).mono ?_; rintro e w1 ⟨rfl, rfl⟩)
  go_ret
  exact ⟨rfl, rfl⟩
theorem Slots_c (k : Int) (w : World) : Calls Try.prog 77 #[.int .i64 k] w fun e w' => e = .returned (.int .i64 (slotsOf k)) ∧ w = w' := by
  by_cases h : 0 ≤ k ∧ k < 5
  · exact Slots_in k h w
  · exact Slots_out k h w

theorem bound_c (n : Int) (h : 0 ≤ n ∧ n ≤ 12) (w : World) : Calls Try.prog 138 #[.int .i64 n] w fun e w' => e = .returned (.int .i64 n) ∧ w = w' := by
  obtain ⟨h0, h1⟩ := h
  have e1 : (if n < 0 then 0 else n) = n := by rw [if_neg (by omega)]
  have e2 : (if 12 < n then 12 else n) = n := by rw [if_neg (by omega)]
  go_enter Try.func138, Try.ntmps138
  go_wp2
  go_ret
  exact ⟨rfl, rfl⟩

def Cfg.arr (c : Cfg) : Value := .agg #[.int .i64 c.c0, .int .i64 c.c1, .int .i64 c.c2, .int .i64 c.c3, .int .i64 c.c4]
theorem arr_index (a b c d e : Value) : (∀ w, (Instr.index 22 (.agg #[a, b, c, d, e]) (.int .i64 0)).run Try.prog w = .ok a w) ∧ (∀ w, (Instr.index 22 (.agg #[a, b, c, d, e]) (.int .i64 1)).run Try.prog w = .ok b w) ∧
    (∀ w, (Instr.index 22 (.agg #[a, b, c, d, e]) (.int .i64 2)).run Try.prog w = .ok c w) ∧ (∀ w, (Instr.index 22 (.agg #[a, b, c, d, e]) (.int .i64 3)).run Try.prog w = .ok d w) ∧ (∀ w, (Instr.index 22 (.agg #[a, b, c, d, e]) (.int .i64 4)).run Try.prog w = .ok e w) :=
  ⟨fun _ => by kernel_rfl, fun _ => by kernel_rfl, fun _ => by kernel_rfl, fun _ => by kernel_rfl, fun _ => by kernel_rfl⟩

theorem SNodes_c (c : Cfg) (h : c.CellsOk) (w : World) : Calls Try.prog 76 #[c.arr] w fun e w' => e = .returned (.int .i64 c.nodes) ∧ Ext [] w w' := by
  obtain ⟨c0, c1, c2, c3, c4, x1, x2, x3, x4, x5, x6, x7⟩ := c
  obtain ⟨⟨h0, h0'⟩, ⟨h1, h1'⟩, ⟨h2, h2'⟩, ⟨h3, h3'⟩, ⟨h4, h4'⟩⟩ := h
  simp only at h0 h0' h1 h1' h2 h2' h3 h3' h4 h4'
  obtain ⟨i0, i1, i2, i3, i4⟩ := arr_index (.int .i64 c0) (.int .i64 c1) (.int .i64 c2) (.int .i64 c3) (.int .i64 c4)
  unfold Cfg.arr
  go_enter Try.func76, Try.ntmps76
  go_wp2_with fail
  refine wp_loop_rounds 6 ?_
  iterate 6
    rw [rounds_succ]
    go_wp2_with (go_at_call 138; refine (bound_c _ ⟨by assumption, by assumption⟩ _).mono ?_; rintro e w1 ⟨rfl, rfl⟩)
  go_ret
  refine ⟨?_, (Ext.refl _ _).alloc _⟩
  simp [Cfg.nodes]

theorem SClass_c (c : Cfg) (h : c.CellsOk) (v : Int) (w : World) (hv : v ≤ 1000000) : Calls Try.prog 78 #[c.arr, .int .i64 v] w fun e w' => e = .returned (.int .i64 (c.classOf v)) ∧ Ext [] w w' := by
  obtain ⟨c0, c1, c2, c3, c4, x1, x2, x3, x4, x5, x6, x7⟩ := c
  obtain ⟨⟨h0, h0'⟩, ⟨h1, h1'⟩, ⟨h2, h2'⟩, ⟨h3, h3'⟩, ⟨h4, h4'⟩⟩ := h
  simp only at h0 h0' h1 h1' h2 h2' h3 h3' h4 h4'
  obtain ⟨i0, i1, i2, i3, i4⟩ := arr_index (.int .i64 c0) (.int .i64 c1) (.int .i64 c2) (.int .i64 c3) (.int .i64 c4)
  unfold Cfg.arr
  have K : ∀ r : Int, (v < 1 → r = -1) → (1 ≤ v → v ≤ c0 → r = 0) → (1 ≤ v → c0 < v → v ≤ c0 + c1 → r = 1) → (1 ≤ v → c0 + c1 < v → v ≤ c0 + c1 + c2 → r = 2) → (1 ≤ v → c0 + c1 + c2 < v → v ≤ c0 + c1 + c2 + c3 → r = 3) →
      (1 ≤ v → c0 + c1 + c2 + c3 < v → v ≤ c0 + c1 + c2 + c3 + c4 → r = 4) → (1 ≤ v → c0 + c1 + c2 + c3 + c4 < v → r = -1) → Cfg.classOf ⟨c0, c1, c2, c3, c4, x1, x2, x3, x4, x5, x6, x7⟩ v = r := by
    intro r k0 k1 k2 k3 k4 k5 k6
    unfold Cfg.classOf Cfg.nodes
    simp only
    repeat' split
    all_goals omega
  have KH := Lib.hid K
  clear K
  by_cases hv1 : 1 ≤ v
  · go_enter Try.func78, Try.ntmps78
    go_wp2_with fail
    refine wp_loop_rounds 6 ?_
    iterate 6
      any_goals rw [rounds_succ]
      go_wp2_with (go_at_call 138; refine (bound_c _ ⟨by assumption, by assumption⟩ _).mono ?_; rintro e w1 ⟨rfl, rfl⟩)
    all_goals go_ret
    · rw [KH.out 0 (by omega) (by intros; omega) (by intros; omega) (by intros; omega) (by intros; omega) (by intros; omega) (by intros; omega)]; exact ⟨rfl, (Ext.refl _ _).alloc _⟩
    · rw [KH.out 1 (by omega) (by intros; omega) (by intros; omega) (by intros; omega) (by intros; omega) (by intros; omega) (by intros; omega)]; exact ⟨rfl, (Ext.refl _ _).alloc _⟩
    · rw [KH.out 2 (by omega) (by intros; omega) (by intros; omega) (by intros; omega) (by intros; omega) (by intros; omega) (by intros; omega)]; exact ⟨rfl, (Ext.refl _ _).alloc _⟩
    · rw [KH.out 3 (by omega) (by intros; omega) (by intros; omega) (by intros; omega) (by intros; omega) (by intros; omega) (by intros; omega)]; exact ⟨rfl, (Ext.refl _ _).alloc _⟩
    · rw [KH.out 4 (by omega) (by intros; omega) (by intros; omega) (by intros; omega) (by intros; omega) (by intros; omega) (by intros; omega)]; exact ⟨rfl, (Ext.refl _ _).alloc _⟩
    · rw [KH.out (-1) (by omega) (by intros; omega) (by intros; omega) (by intros; omega) (by intros; omega) (by intros; omega) (by intros; omega)]; exact ⟨rfl, (Ext.refl _ _).alloc _⟩
  · rw [KH.out (-1) (by omega) (by intros; omega) (by intros; omega) (by intros; omega) (by intros; omega) (by intros; omega) (by intros; omega)]
    go_enter Try.func78, Try.ntmps78
    go_wp2_with fail
    go_ret
    exact ⟨rfl, (Ext.refl _ _).alloc _⟩

/-! ### layout.Check -/
set_option maxHeartbeats 2000000 in
theorem Check_c (c : Cfg) (h : c.Ok) (w : World) : Calls Try.prog 75 #[.agg c.vals.toArray] w fun e w' => e = .returned (.int .i64 0) ∧ Ext [] w w' := by
  have HN := Lib.hid (SNodes_c c h.cells)
  have hne : (c.nodes == 0) = false := by rw [beq_eq_false_iff_ne]; have := h.some; omega
  obtain ⟨⟨⟨a0, b0⟩, ⟨a1, b1⟩, ⟨a2, b2⟩, ⟨a3, b3⟩, ⟨a4, b4⟩⟩, hs, ⟨a5, b5⟩, ⟨a6, b6⟩, ⟨a7, b7⟩, ⟨a8, b8⟩, ⟨a9, b9⟩, ⟨a10, b10⟩, ⟨a11, b11⟩⟩ := h
  obtain ⟨c0, c1, c2, c3, c4, x1, x2, x3, x4, x5, x6, x7⟩ := c
  generalize hn : Cfg.nodes ⟨c0, c1, c2, c3, c4, x1, x2, x3, x4, x5, x6, x7⟩ = n at HN hne hs
  simp only at a0 b0 a1 b1 a2 b2 a3 b3 a4 b4 a5 b5 a6 b6 a7 b7 a8 b8 a9 b9 a10 b10 a11 b11
  clear hn
  obtain ⟨i0, i1, i2, i3, i4⟩ := arr_index (.int .i64 c0) (.int .i64 c1) (.int .i64 c2) (.int .i64 c3) (.int .i64 c4)
  simp only [Cfg.vals, Cfg.arr] at HN ⊢
  go_enter Try.func75, Try.ntmps75
  go_wp2_with fail
  refine wp_loop_rounds 6 ?_
  iterate 6
    rw [rounds_succ]
    go_wp2_with (first | (go_at_call 137; go_in) | (go_at_call 76; refine (HN.out _).mono ?_; rintro e w1 ⟨rfl, he⟩))
  go_ret
  exact ⟨rfl, ((Ext.refl _ _).alloc _).tr he⟩
end Go.Proofs.Ytcgnficlcgmffaa
