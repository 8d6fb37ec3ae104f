/-
  What each law asks of a configuration: small, model.
-/
import Derived.Test.YtcgnficlcgmffaaLawCfg
namespace Go.Proofs.Ytcgnficlcgmffaa
open Go.RowKit

def Cfg.Small (c : Cfg) : Prop := (∀ j, j < 5 → 0 ≤ c.cells.getD j 0 ∧ c.cells.getD j 0 ≤ 6) ∧ c.nodes ≤ 12 ∧ c.Ok
theorem Cfg.take6 (c : Cfg) (k : Nat) (h : ∀ j, j < k → 0 ≤ c.cells.getD j 0 ∧ c.cells.getD j 0 ≤ 6) (hk : k ≤ 5) : 0 ≤ (c.cells.take k).sum ∧ (c.cells.take k).sum ≤ 6 * k := by
  induction k with
  | zero => simp
  | succ k ih =>
    have h1 := ih (fun j hj => h j (by omega)) (by omega)
    have h2 := h k (by omega)
    rw [c.take_sum k (by omega)]
    omega

theorem Model11_c (c : Cfg) (w : World) : Calls Try.prog 25 #[.agg c.vals.toArray] w fun e w' => e = .returned (.agg c.vals.toArray) ∧ Ext [] w w' := by
  simp only [Cfg.vals]
  go_enter Try.func25, Try.ntmps25
  go_wp2
  refine bodyPost_ret (v := .agg c.vals.toArray) ?_ rfl ⟨rfl, ((Ext.refl _ _).alloc _).alloc _⟩
  simp [results, go_sem, Cfg.vals]
set_option maxHeartbeats 2000000 in
theorem Small11_yes (c : Cfg) (h : c.Small) (w : World) : Calls Try.prog 13 #[.agg c.vals.toArray] w fun e w' => e = .returned (.bool true) ∧ Ext [] w w' := by
  have HH := Lib.hid h
  clear h
  have hE : Ext [] w (w.alloc (.cells c.vals.toArray 24)) := (Ext.refl _ _).alloc _
  simp only [Cfg.vals]
  simp only [Cfg.vals] at hE
  go_enter Try.func13, Try.ntmps13
  go_wp2_with fail
  have hcl : ∀ k : Nat, k < 5 → (w.alloc (.cells c.vals.toArray 24)).cell? ⟨w.heap.size, k, none⟩ = some (.int .i64 (c.cells.getD k 0)) := fun k hk => by
    rw [← Cfg.vals_cell c k hk]; exact (Blk.new w c.vals _).cells k
  have HCL := Lib.hid hcl
  have hcv := (Blk.new w c.vals 24).cells
  have HCV := Lib.hid hcv
  clear hcl hcv
  simp only [Cfg.vals] at HCL HCV
  generalize hWW : w.alloc (.cells (List.toArray [Value.int .i64 c.c0, .int .i64 c.c1, .int .i64 c.c2, .int .i64 c.c3, .int .i64 c.c4, .int .i64 c.markers, .int .i64 c.mutators, .int .i64 c.deque, .int .i64 c.chunk, .int .i64 c.buffer, .int .i64 c.roots, .int .i64 c.sweep]) 24) = W at *
  generalize w.heap.size = g at *
  clear hWW
  go_loopg [4, 3] 5 (fun gk i v wr => ∃ k : Nat, i = .int .i64 (k : Int) ∧ v = .int .i64 ((c.cells.take k).sum) ∧ gk + k = 5 ∧ k ≤ 5 ∧ (∀ j, j < k → 0 ≤ c.cells.getD j 0 ∧ c.cells.getD j 0 ≤ 6) ∧ wr = W)
  case atStart => exact ⟨0, rfl, by simp, by omega, by omega, by intros; omega, by first | rfl | assumption⟩
  case round =>
    obtain ⟨k, rfl, rfl, hgk, hk5, hall, rfl⟩ := hrel
    have HALL := Lib.hid hall
    have hnn := c.take6 k hall hk5
    clear hall
    by_cases hk : k < 5
    · have hk' : (k : Int) < 5 := by omega
      have hc := HCL.out k hk
      have HSUM := Lib.hid (c.take_sum k hk)
      have hin := HH.out.1 k hk
      have HK1 : ∀ j, j < k + 1 → 0 ≤ c.cells.getD j 0 ∧ c.cells.getD j 0 ≤ 6 := fun j hj => by
        by_cases e : j = k
        · subst e; exact hin
        · exact HALL.out j (by omega)
      have HKH := Lib.hid HK1
      clear HK1
      obtain ⟨n0, n1⟩ := hin
      obtain ⟨s0, s1⟩ := hnn
      generalize c.cells.getD k 0 = x at hc n0 n1 HSUM
      generalize hss : (c.cells.take k).sum = s at s0 s1 HSUM
      clear hss
      go_wp2_with fail
      go_roundg (gk - 1)
      case measure => omega
      case rel => exact ⟨k + 1, by simp, by rw [HSUM.out], by omega, by omega, HKH.out, by first | rfl | assumption⟩
    · have hk5' : k = 5 := by omega
      subst hk5'
      have v0 := HCV.out 0
      have v1 := HCV.out 1
      have v2 := HCV.out 2
      have v3 := HCV.out 3
      have v4 := HCV.out 4
      have v5 := HCV.out 5
      have v6 := HCV.out 6
      have v7 := HCV.out 7
      have v8 := HCV.out 8
      have v9 := HCV.out 9
      have v10 := HCV.out 10
      have v11 := HCV.out 11
      simp only [List.getElem?_cons_succ, List.getElem?_cons_zero] at v0 v1 v2 v3 v4 v5 v6 v7 v8 v9 v10 v11
      rw [c.take5]
      skip
      have hn := HH.out.2.1
      have HM := Lib.hid (Model11_c c)
      have HC := Lib.hid (RCheck_ok c HH.out.2.2)
      simp only [Cfg.vals] at HM HC
      go_wp2_with (first | (go_at_call 25; refine (HM.out _).mono ?_; rintro e w3 ⟨rfl, he3⟩) | (go_at_call 74; refine (HC.out _).mono ?_; rintro e w4 ⟨rfl, he4⟩))
      go_ret
      exact ⟨rfl, (hE.trans he3 (by simp)).trans he4 (by simp)⟩
set_option maxHeartbeats 2000000 in
theorem Small11_no (c : Cfg) (h : ¬ c.Small) (w : World) : Calls Try.prog 13 #[.agg c.vals.toArray] w fun e w' => e = .returned (.bool false) ∧ Ext [] w w' := by
  have HH := Lib.hid h
  clear h
  have hE : Ext [] w (w.alloc (.cells c.vals.toArray 24)) := (Ext.refl _ _).alloc _
  simp only [Cfg.vals]
  simp only [Cfg.vals] at hE
  go_enter Try.func13, Try.ntmps13
  go_wp2_with fail
  have hcl : ∀ k : Nat, k < 5 → (w.alloc (.cells c.vals.toArray 24)).cell? ⟨w.heap.size, k, none⟩ = some (.int .i64 (c.cells.getD k 0)) := fun k hk => by
    rw [← Cfg.vals_cell c k hk]; exact (Blk.new w c.vals _).cells k
  have HCL := Lib.hid hcl
  have hcv := (Blk.new w c.vals 24).cells
  have HCV := Lib.hid hcv
  clear hcl hcv
  simp only [Cfg.vals] at HCL HCV
  generalize hWW : w.alloc (.cells (List.toArray [Value.int .i64 c.c0, .int .i64 c.c1, .int .i64 c.c2, .int .i64 c.c3, .int .i64 c.c4, .int .i64 c.markers, .int .i64 c.mutators, .int .i64 c.deque, .int .i64 c.chunk, .int .i64 c.buffer, .int .i64 c.roots, .int .i64 c.sweep]) 24) = W at *
  generalize w.heap.size = g at *
  clear hWW
  go_loopg [4, 3] 5 (fun gk i v wr => ∃ k : Nat, i = .int .i64 (k : Int) ∧ v = .int .i64 ((c.cells.take k).sum) ∧ gk + k = 5 ∧ k ≤ 5 ∧ (∀ j, j < k → 0 ≤ c.cells.getD j 0 ∧ c.cells.getD j 0 ≤ 6) ∧ wr = W)
  case atStart => exact ⟨0, rfl, by simp, by omega, by omega, by intros; omega, by first | rfl | assumption⟩
  case round =>
    obtain ⟨k, rfl, rfl, hgk, hk5, hall, rfl⟩ := hrel
    have HALL := Lib.hid hall
    have hnn := c.take6 k hall hk5
    clear hall
    by_cases hk : k < 5
    · have hk' : (k : Int) < 5 := by omega
      have hc := HCL.out k hk
      have HSUM := Lib.hid (c.take_sum k hk)
      by_cases hin : ¬ (0 ≤ c.cells.getD k 0 ∧ c.cells.getD k 0 ≤ 6)
      · by_cases h0 : c.cells.getD k 0 < 0
        · clear hin
          generalize c.cells.getD k 0 = x at hc HSUM h0
          go_wp2_with fail
          go_ret
          exact ⟨rfl, hE⟩
        · have h6 : 6 < c.cells.getD k 0 := by omega
          clear hin
          generalize c.cells.getD k 0 = x at hc HSUM h0 h6
          go_wp2_with fail
          go_ret
          exact ⟨rfl, hE⟩
      have hin := Classical.not_not.1 hin
      have HK1 : ∀ j, j < k + 1 → 0 ≤ c.cells.getD j 0 ∧ c.cells.getD j 0 ≤ 6 := fun j hj => by
        by_cases e : j = k
        · subst e; exact hin
        · exact HALL.out j (by omega)
      have HKH := Lib.hid HK1
      clear HK1
      obtain ⟨n0, n1⟩ := hin
      obtain ⟨s0, s1⟩ := hnn
      generalize c.cells.getD k 0 = x at hc n0 n1 HSUM
      generalize hss : (c.cells.take k).sum = s at s0 s1 HSUM
      clear hss
      go_wp2_with fail
      go_roundg (gk - 1)
      case measure => omega
      case rel => exact ⟨k + 1, by simp, by rw [HSUM.out], by omega, by omega, HKH.out, by first | rfl | assumption⟩
    · have hk5' : k = 5 := by omega
      subst hk5'
      have v0 := HCV.out 0
      have v1 := HCV.out 1
      have v2 := HCV.out 2
      have v3 := HCV.out 3
      have v4 := HCV.out 4
      have v5 := HCV.out 5
      have v6 := HCV.out 6
      have v7 := HCV.out 7
      have v8 := HCV.out 8
      have v9 := HCV.out 9
      have v10 := HCV.out 10
      have v11 := HCV.out 11
      simp only [List.getElem?_cons_succ, List.getElem?_cons_zero] at v0 v1 v2 v3 v4 v5 v6 v7 v8 v9 v10 v11
      rw [c.take5]
      skip
      by_cases hn : c.nodes ≤ 12
      · have hnok : ¬ c.Ok := fun hok => HH.out ⟨HALL.out, hn, hok⟩
        have HM := Lib.hid (Model11_c c)
        have HC := Lib.hid (RCheck_no c hnok)
        simp only [Cfg.vals] at HM HC
        clear hnok
        go_wp2_with (first | (go_at_call 25; refine (HM.out _).mono ?_; rintro e w3 ⟨rfl, he3⟩) | (go_at_call 74; refine (HC.out _).mono ?_; rintro e w4 ⟨rfl, he4⟩))
        go_ret
        exact ⟨rfl, (hE.trans he3 (by simp)).trans he4 (by simp)⟩
      · go_wp2_with fail
        go_ret
        exact ⟨rfl, hE⟩
theorem Model13_c (c : Cfg) (w : World) : Calls Try.prog 107 #[.agg c.vals.toArray] w fun e w' => e = .returned (.agg c.vals.toArray) ∧ Ext [] w w' := by
  simp only [Cfg.vals]
  go_enter Try.func107, Try.ntmps107
  go_wp2
  refine bodyPost_ret (v := .agg c.vals.toArray) ?_ rfl ⟨rfl, ((Ext.refl _ _).alloc _).alloc _⟩
  simp [results, go_sem, Cfg.vals]
set_option maxHeartbeats 2000000 in
theorem Small13_yes (c : Cfg) (h : c.Small) (w : World) : Calls Try.prog 42 #[.agg c.vals.toArray] w fun e w' => e = .returned (.bool true) ∧ Ext [] w w' := by
  have HH := Lib.hid h
  clear h
  have hE : Ext [] w (w.alloc (.cells c.vals.toArray 24)) := (Ext.refl _ _).alloc _
  simp only [Cfg.vals]
  simp only [Cfg.vals] at hE
  go_enter Try.func42, Try.ntmps42
  go_wp2_with fail
  have hcl : ∀ k : Nat, k < 5 → (w.alloc (.cells c.vals.toArray 24)).cell? ⟨w.heap.size, k, none⟩ = some (.int .i64 (c.cells.getD k 0)) := fun k hk => by
    rw [← Cfg.vals_cell c k hk]; exact (Blk.new w c.vals _).cells k
  have HCL := Lib.hid hcl
  have hcv := (Blk.new w c.vals 24).cells
  have HCV := Lib.hid hcv
  clear hcl hcv
  simp only [Cfg.vals] at HCL HCV
  generalize hWW : w.alloc (.cells (List.toArray [Value.int .i64 c.c0, .int .i64 c.c1, .int .i64 c.c2, .int .i64 c.c3, .int .i64 c.c4, .int .i64 c.markers, .int .i64 c.mutators, .int .i64 c.deque, .int .i64 c.chunk, .int .i64 c.buffer, .int .i64 c.roots, .int .i64 c.sweep]) 24) = W at *
  generalize w.heap.size = g at *
  clear hWW
  go_loopg [4, 3] 5 (fun gk i v wr => ∃ k : Nat, i = .int .i64 (k : Int) ∧ v = .int .i64 ((c.cells.take k).sum) ∧ gk + k = 5 ∧ k ≤ 5 ∧ (∀ j, j < k → 0 ≤ c.cells.getD j 0 ∧ c.cells.getD j 0 ≤ 6) ∧ wr = W)
  case atStart => exact ⟨0, rfl, by simp, by omega, by omega, by intros; omega, by first | rfl | assumption⟩
  case round =>
    obtain ⟨k, rfl, rfl, hgk, hk5, hall, rfl⟩ := hrel
    have HALL := Lib.hid hall
    have hnn := c.take6 k hall hk5
    clear hall
    by_cases hk : k < 5
    · have hk' : (k : Int) < 5 := by omega
      have hc := HCL.out k hk
      have HSUM := Lib.hid (c.take_sum k hk)
      have hin := HH.out.1 k hk
      have HK1 : ∀ j, j < k + 1 → 0 ≤ c.cells.getD j 0 ∧ c.cells.getD j 0 ≤ 6 := fun j hj => by
        by_cases e : j = k
        · subst e; exact hin
        · exact HALL.out j (by omega)
      have HKH := Lib.hid HK1
      clear HK1
      obtain ⟨n0, n1⟩ := hin
      obtain ⟨s0, s1⟩ := hnn
      generalize c.cells.getD k 0 = x at hc n0 n1 HSUM
      generalize hss : (c.cells.take k).sum = s at s0 s1 HSUM
      clear hss
      go_wp2_with fail
      go_roundg (gk - 1)
      case measure => omega
      case rel => exact ⟨k + 1, by simp, by rw [HSUM.out], by omega, by omega, HKH.out, by first | rfl | assumption⟩
    · have hk5' : k = 5 := by omega
      subst hk5'
      have v0 := HCV.out 0
      have v1 := HCV.out 1
      have v2 := HCV.out 2
      have v3 := HCV.out 3
      have v4 := HCV.out 4
      have v5 := HCV.out 5
      have v6 := HCV.out 6
      have v7 := HCV.out 7
      have v8 := HCV.out 8
      have v9 := HCV.out 9
      have v10 := HCV.out 10
      have v11 := HCV.out 11
      simp only [List.getElem?_cons_succ, List.getElem?_cons_zero] at v0 v1 v2 v3 v4 v5 v6 v7 v8 v9 v10 v11
      rw [c.take5]
      skip
      have hn := HH.out.2.1
      have HM := Lib.hid (Model13_c c)
      have HC := Lib.hid (RCheck_ok c HH.out.2.2)
      simp only [Cfg.vals] at HM HC
      go_wp2_with (first | (go_at_call 107; refine (HM.out _).mono ?_; rintro e w3 ⟨rfl, he3⟩) | (go_at_call 74; refine (HC.out _).mono ?_; rintro e w4 ⟨rfl, he4⟩))
      go_ret
      exact ⟨rfl, (hE.trans he3 (by simp)).trans he4 (by simp)⟩
set_option maxHeartbeats 2000000 in
theorem Small13_no (c : Cfg) (h : ¬ c.Small) (w : World) : Calls Try.prog 42 #[.agg c.vals.toArray] w fun e w' => e = .returned (.bool false) ∧ Ext [] w w' := by
  have HH := Lib.hid h
  clear h
  have hE : Ext [] w (w.alloc (.cells c.vals.toArray 24)) := (Ext.refl _ _).alloc _
  simp only [Cfg.vals]
  simp only [Cfg.vals] at hE
  go_enter Try.func42, Try.ntmps42
  go_wp2_with fail
  have hcl : ∀ k : Nat, k < 5 → (w.alloc (.cells c.vals.toArray 24)).cell? ⟨w.heap.size, k, none⟩ = some (.int .i64 (c.cells.getD k 0)) := fun k hk => by
    rw [← Cfg.vals_cell c k hk]; exact (Blk.new w c.vals _).cells k
  have HCL := Lib.hid hcl
  have hcv := (Blk.new w c.vals 24).cells
  have HCV := Lib.hid hcv
  clear hcl hcv
  simp only [Cfg.vals] at HCL HCV
  generalize hWW : w.alloc (.cells (List.toArray [Value.int .i64 c.c0, .int .i64 c.c1, .int .i64 c.c2, .int .i64 c.c3, .int .i64 c.c4, .int .i64 c.markers, .int .i64 c.mutators, .int .i64 c.deque, .int .i64 c.chunk, .int .i64 c.buffer, .int .i64 c.roots, .int .i64 c.sweep]) 24) = W at *
  generalize w.heap.size = g at *
  clear hWW
  go_loopg [4, 3] 5 (fun gk i v wr => ∃ k : Nat, i = .int .i64 (k : Int) ∧ v = .int .i64 ((c.cells.take k).sum) ∧ gk + k = 5 ∧ k ≤ 5 ∧ (∀ j, j < k → 0 ≤ c.cells.getD j 0 ∧ c.cells.getD j 0 ≤ 6) ∧ wr = W)
  case atStart => exact ⟨0, rfl, by simp, by omega, by omega, by intros; omega, by first | rfl | assumption⟩
  case round =>
    obtain ⟨k, rfl, rfl, hgk, hk5, hall, rfl⟩ := hrel
    have HALL := Lib.hid hall
    have hnn := c.take6 k hall hk5
    clear hall
    by_cases hk : k < 5
    · have hk' : (k : Int) < 5 := by omega
      have hc := HCL.out k hk
      have HSUM := Lib.hid (c.take_sum k hk)
      by_cases hin : ¬ (0 ≤ c.cells.getD k 0 ∧ c.cells.getD k 0 ≤ 6)
      · by_cases h0 : c.cells.getD k 0 < 0
        · clear hin
          generalize c.cells.getD k 0 = x at hc HSUM h0
          go_wp2_with fail
          go_ret
          exact ⟨rfl, hE⟩
        · have h6 : 6 < c.cells.getD k 0 := by omega
          clear hin
          generalize c.cells.getD k 0 = x at hc HSUM h0 h6
          go_wp2_with fail
          go_ret
          exact ⟨rfl, hE⟩
      have hin := Classical.not_not.1 hin
      have HK1 : ∀ j, j < k + 1 → 0 ≤ c.cells.getD j 0 ∧ c.cells.getD j 0 ≤ 6 := fun j hj => by
        by_cases e : j = k
        · subst e; exact hin
        · exact HALL.out j (by omega)
      have HKH := Lib.hid HK1
      clear HK1
      obtain ⟨n0, n1⟩ := hin
      obtain ⟨s0, s1⟩ := hnn
      generalize c.cells.getD k 0 = x at hc n0 n1 HSUM
      generalize hss : (c.cells.take k).sum = s at s0 s1 HSUM
      clear hss
      go_wp2_with fail
      go_roundg (gk - 1)
      case measure => omega
      case rel => exact ⟨k + 1, by simp, by rw [HSUM.out], by omega, by omega, HKH.out, by first | rfl | assumption⟩
    · have hk5' : k = 5 := by omega
      subst hk5'
      have v0 := HCV.out 0
      have v1 := HCV.out 1
      have v2 := HCV.out 2
      have v3 := HCV.out 3
      have v4 := HCV.out 4
      have v5 := HCV.out 5
      have v6 := HCV.out 6
      have v7 := HCV.out 7
      have v8 := HCV.out 8
      have v9 := HCV.out 9
      have v10 := HCV.out 10
      have v11 := HCV.out 11
      simp only [List.getElem?_cons_succ, List.getElem?_cons_zero] at v0 v1 v2 v3 v4 v5 v6 v7 v8 v9 v10 v11
      rw [c.take5]
      skip
      by_cases hn : c.nodes ≤ 12
      · have hnok : ¬ c.Ok := fun hok => HH.out ⟨HALL.out, hn, hok⟩
        have HM := Lib.hid (Model13_c c)
        have HC := Lib.hid (RCheck_no c hnok)
        simp only [Cfg.vals] at HM HC
        clear hnok
        go_wp2_with (first | (go_at_call 107; refine (HM.out _).mono ?_; rintro e w3 ⟨rfl, he3⟩) | (go_at_call 74; refine (HC.out _).mono ?_; rintro e w4 ⟨rfl, he4⟩))
        go_ret
        exact ⟨rfl, (hE.trans he3 (by simp)).trans he4 (by simp)⟩
      · go_wp2_with fail
        go_ret
        exact ⟨rfl, hE⟩
theorem Model18_c (c : Cfg) (w : World) : Calls Try.prog 113 #[.agg c.vals.toArray] w fun e w' => e = .returned (.agg c.vals.toArray) ∧ Ext [] w w' := by
  simp only [Cfg.vals]
  go_enter Try.func113, Try.ntmps113
  go_wp2
  refine bodyPost_ret (v := .agg c.vals.toArray) ?_ rfl ⟨rfl, ((Ext.refl _ _).alloc _).alloc _⟩
  simp [results, go_sem, Cfg.vals]
set_option maxHeartbeats 2000000 in
theorem Small18_yes (c : Cfg) (h : c.Small) (w : World) : Calls Try.prog 48 #[.agg c.vals.toArray] w fun e w' => e = .returned (.bool true) ∧ Ext [] w w' := by
  have HH := Lib.hid h
  clear h
  have hE : Ext [] w (w.alloc (.cells c.vals.toArray 24)) := (Ext.refl _ _).alloc _
  simp only [Cfg.vals]
  simp only [Cfg.vals] at hE
  go_enter Try.func48, Try.ntmps48
  go_wp2_with fail
  have hcl : ∀ k : Nat, k < 5 → (w.alloc (.cells c.vals.toArray 24)).cell? ⟨w.heap.size, k, none⟩ = some (.int .i64 (c.cells.getD k 0)) := fun k hk => by
    rw [← Cfg.vals_cell c k hk]; exact (Blk.new w c.vals _).cells k
  have HCL := Lib.hid hcl
  have hcv := (Blk.new w c.vals 24).cells
  have HCV := Lib.hid hcv
  clear hcl hcv
  simp only [Cfg.vals] at HCL HCV
  generalize hWW : w.alloc (.cells (List.toArray [Value.int .i64 c.c0, .int .i64 c.c1, .int .i64 c.c2, .int .i64 c.c3, .int .i64 c.c4, .int .i64 c.markers, .int .i64 c.mutators, .int .i64 c.deque, .int .i64 c.chunk, .int .i64 c.buffer, .int .i64 c.roots, .int .i64 c.sweep]) 24) = W at *
  generalize w.heap.size = g at *
  clear hWW
  go_loopg [4, 3] 5 (fun gk i v wr => ∃ k : Nat, i = .int .i64 (k : Int) ∧ v = .int .i64 ((c.cells.take k).sum) ∧ gk + k = 5 ∧ k ≤ 5 ∧ (∀ j, j < k → 0 ≤ c.cells.getD j 0 ∧ c.cells.getD j 0 ≤ 6) ∧ wr = W)
  case atStart => exact ⟨0, rfl, by simp, by omega, by omega, by intros; omega, by first | rfl | assumption⟩
  case round =>
    obtain ⟨k, rfl, rfl, hgk, hk5, hall, rfl⟩ := hrel
    have HALL := Lib.hid hall
    have hnn := c.take6 k hall hk5
    clear hall
    by_cases hk : k < 5
    · have hk' : (k : Int) < 5 := by omega
      have hc := HCL.out k hk
      have HSUM := Lib.hid (c.take_sum k hk)
      have hin := HH.out.1 k hk
      have HK1 : ∀ j, j < k + 1 → 0 ≤ c.cells.getD j 0 ∧ c.cells.getD j 0 ≤ 6 := fun j hj => by
        by_cases e : j = k
        · subst e; exact hin
        · exact HALL.out j (by omega)
      have HKH := Lib.hid HK1
      clear HK1
      obtain ⟨n0, n1⟩ := hin
      obtain ⟨s0, s1⟩ := hnn
      generalize c.cells.getD k 0 = x at hc n0 n1 HSUM
      generalize hss : (c.cells.take k).sum = s at s0 s1 HSUM
      clear hss
      go_wp2_with fail
      go_roundg (gk - 1)
      case measure => omega
      case rel => exact ⟨k + 1, by simp, by rw [HSUM.out], by omega, by omega, HKH.out, by first | rfl | assumption⟩
    · have hk5' : k = 5 := by omega
      subst hk5'
      have v0 := HCV.out 0
      have v1 := HCV.out 1
      have v2 := HCV.out 2
      have v3 := HCV.out 3
      have v4 := HCV.out 4
      have v5 := HCV.out 5
      have v6 := HCV.out 6
      have v7 := HCV.out 7
      have v8 := HCV.out 8
      have v9 := HCV.out 9
      have v10 := HCV.out 10
      have v11 := HCV.out 11
      simp only [List.getElem?_cons_succ, List.getElem?_cons_zero] at v0 v1 v2 v3 v4 v5 v6 v7 v8 v9 v10 v11
      rw [c.take5]
      skip
      have hn := HH.out.2.1
      have HM := Lib.hid (Model18_c c)
      have HC := Lib.hid (RCheck_ok c HH.out.2.2)
      simp only [Cfg.vals] at HM HC
      go_wp2_with (first | (go_at_call 113; refine (HM.out _).mono ?_; rintro e w3 ⟨rfl, he3⟩) | (go_at_call 74; refine (HC.out _).mono ?_; rintro e w4 ⟨rfl, he4⟩))
      go_ret
      exact ⟨rfl, (hE.trans he3 (by simp)).trans he4 (by simp)⟩
set_option maxHeartbeats 2000000 in
theorem Small18_no (c : Cfg) (h : ¬ c.Small) (w : World) : Calls Try.prog 48 #[.agg c.vals.toArray] w fun e w' => e = .returned (.bool false) ∧ Ext [] w w' := by
  have HH := Lib.hid h
  clear h
  have hE : Ext [] w (w.alloc (.cells c.vals.toArray 24)) := (Ext.refl _ _).alloc _
  simp only [Cfg.vals]
  simp only [Cfg.vals] at hE
  go_enter Try.func48, Try.ntmps48
  go_wp2_with fail
  have hcl : ∀ k : Nat, k < 5 → (w.alloc (.cells c.vals.toArray 24)).cell? ⟨w.heap.size, k, none⟩ = some (.int .i64 (c.cells.getD k 0)) := fun k hk => by
    rw [← Cfg.vals_cell c k hk]; exact (Blk.new w c.vals _).cells k
  have HCL := Lib.hid hcl
  have hcv := (Blk.new w c.vals 24).cells
  have HCV := Lib.hid hcv
  clear hcl hcv
  simp only [Cfg.vals] at HCL HCV
  generalize hWW : w.alloc (.cells (List.toArray [Value.int .i64 c.c0, .int .i64 c.c1, .int .i64 c.c2, .int .i64 c.c3, .int .i64 c.c4, .int .i64 c.markers, .int .i64 c.mutators, .int .i64 c.deque, .int .i64 c.chunk, .int .i64 c.buffer, .int .i64 c.roots, .int .i64 c.sweep]) 24) = W at *
  generalize w.heap.size = g at *
  clear hWW
  go_loopg [4, 3] 5 (fun gk i v wr => ∃ k : Nat, i = .int .i64 (k : Int) ∧ v = .int .i64 ((c.cells.take k).sum) ∧ gk + k = 5 ∧ k ≤ 5 ∧ (∀ j, j < k → 0 ≤ c.cells.getD j 0 ∧ c.cells.getD j 0 ≤ 6) ∧ wr = W)
  case atStart => exact ⟨0, rfl, by simp, by omega, by omega, by intros; omega, by first | rfl | assumption⟩
  case round =>
    obtain ⟨k, rfl, rfl, hgk, hk5, hall, rfl⟩ := hrel
    have HALL := Lib.hid hall
    have hnn := c.take6 k hall hk5
    clear hall
    by_cases hk : k < 5
    · have hk' : (k : Int) < 5 := by omega
      have hc := HCL.out k hk
      have HSUM := Lib.hid (c.take_sum k hk)
      by_cases hin : ¬ (0 ≤ c.cells.getD k 0 ∧ c.cells.getD k 0 ≤ 6)
      · by_cases h0 : c.cells.getD k 0 < 0
        · clear hin
          generalize c.cells.getD k 0 = x at hc HSUM h0
          go_wp2_with fail
          go_ret
          exact ⟨rfl, hE⟩
        · have h6 : 6 < c.cells.getD k 0 := by omega
          clear hin
          generalize c.cells.getD k 0 = x at hc HSUM h0 h6
          go_wp2_with fail
          go_ret
          exact ⟨rfl, hE⟩
      have hin := Classical.not_not.1 hin
      have HK1 : ∀ j, j < k + 1 → 0 ≤ c.cells.getD j 0 ∧ c.cells.getD j 0 ≤ 6 := fun j hj => by
        by_cases e : j = k
        · subst e; exact hin
        · exact HALL.out j (by omega)
      have HKH := Lib.hid HK1
      clear HK1
      obtain ⟨n0, n1⟩ := hin
      obtain ⟨s0, s1⟩ := hnn
      generalize c.cells.getD k 0 = x at hc n0 n1 HSUM
      generalize hss : (c.cells.take k).sum = s at s0 s1 HSUM
      clear hss
      go_wp2_with fail
      go_roundg (gk - 1)
      case measure => omega
      case rel => exact ⟨k + 1, by simp, by rw [HSUM.out], by omega, by omega, HKH.out, by first | rfl | assumption⟩
    · have hk5' : k = 5 := by omega
      subst hk5'
      have v0 := HCV.out 0
      have v1 := HCV.out 1
      have v2 := HCV.out 2
      have v3 := HCV.out 3
      have v4 := HCV.out 4
      have v5 := HCV.out 5
      have v6 := HCV.out 6
      have v7 := HCV.out 7
      have v8 := HCV.out 8
      have v9 := HCV.out 9
      have v10 := HCV.out 10
      have v11 := HCV.out 11
      simp only [List.getElem?_cons_succ, List.getElem?_cons_zero] at v0 v1 v2 v3 v4 v5 v6 v7 v8 v9 v10 v11
      rw [c.take5]
      skip
      by_cases hn : c.nodes ≤ 12
      · have hnok : ¬ c.Ok := fun hok => HH.out ⟨HALL.out, hn, hok⟩
        have HM := Lib.hid (Model18_c c)
        have HC := Lib.hid (RCheck_no c hnok)
        simp only [Cfg.vals] at HM HC
        clear hnok
        go_wp2_with (first | (go_at_call 113; refine (HM.out _).mono ?_; rintro e w3 ⟨rfl, he3⟩) | (go_at_call 74; refine (HC.out _).mono ?_; rintro e w4 ⟨rfl, he4⟩))
        go_ret
        exact ⟨rfl, (hE.trans he3 (by simp)).trans he4 (by simp)⟩
      · go_wp2_with fail
        go_ret
        exact ⟨rfl, hE⟩
theorem Model23_c (c : Cfg) (w : World) : Calls Try.prog 61 #[.agg c.vals.toArray] w fun e w' => e = .returned (.agg c.vals.toArray) ∧ Ext [] w w' := by
  simp only [Cfg.vals]
  go_enter Try.func61, Try.ntmps61
  go_wp2
  refine bodyPost_ret (v := .agg c.vals.toArray) ?_ rfl ⟨rfl, ((Ext.refl _ _).alloc _).alloc _⟩
  simp [results, go_sem, Cfg.vals]
set_option maxHeartbeats 2000000 in
theorem Small23_yes (c : Cfg) (h : c.Small) (w : World) : Calls Try.prog 58 #[.agg c.vals.toArray] w fun e w' => e = .returned (.bool true) ∧ Ext [] w w' := by
  have HH := Lib.hid h
  clear h
  have hE : Ext [] w (w.alloc (.cells c.vals.toArray 24)) := (Ext.refl _ _).alloc _
  simp only [Cfg.vals]
  simp only [Cfg.vals] at hE
  go_enter Try.func58, Try.ntmps58
  go_wp2_with fail
  have hcl : ∀ k : Nat, k < 5 → (w.alloc (.cells c.vals.toArray 24)).cell? ⟨w.heap.size, k, none⟩ = some (.int .i64 (c.cells.getD k 0)) := fun k hk => by
    rw [← Cfg.vals_cell c k hk]; exact (Blk.new w c.vals _).cells k
  have HCL := Lib.hid hcl
  have hcv := (Blk.new w c.vals 24).cells
  have HCV := Lib.hid hcv
  clear hcl hcv
  simp only [Cfg.vals] at HCL HCV
  generalize hWW : w.alloc (.cells (List.toArray [Value.int .i64 c.c0, .int .i64 c.c1, .int .i64 c.c2, .int .i64 c.c3, .int .i64 c.c4, .int .i64 c.markers, .int .i64 c.mutators, .int .i64 c.deque, .int .i64 c.chunk, .int .i64 c.buffer, .int .i64 c.roots, .int .i64 c.sweep]) 24) = W at *
  generalize w.heap.size = g at *
  clear hWW
  go_loopg [4, 3] 5 (fun gk i v wr => ∃ k : Nat, i = .int .i64 (k : Int) ∧ v = .int .i64 ((c.cells.take k).sum) ∧ gk + k = 5 ∧ k ≤ 5 ∧ (∀ j, j < k → 0 ≤ c.cells.getD j 0 ∧ c.cells.getD j 0 ≤ 6) ∧ wr = W)
  case atStart => exact ⟨0, rfl, by simp, by omega, by omega, by intros; omega, by first | rfl | assumption⟩
  case round =>
    obtain ⟨k, rfl, rfl, hgk, hk5, hall, rfl⟩ := hrel
    have HALL := Lib.hid hall
    have hnn := c.take6 k hall hk5
    clear hall
    by_cases hk : k < 5
    · have hk' : (k : Int) < 5 := by omega
      have hc := HCL.out k hk
      have HSUM := Lib.hid (c.take_sum k hk)
      have hin := HH.out.1 k hk
      have HK1 : ∀ j, j < k + 1 → 0 ≤ c.cells.getD j 0 ∧ c.cells.getD j 0 ≤ 6 := fun j hj => by
        by_cases e : j = k
        · subst e; exact hin
        · exact HALL.out j (by omega)
      have HKH := Lib.hid HK1
      clear HK1
      obtain ⟨n0, n1⟩ := hin
      obtain ⟨s0, s1⟩ := hnn
      generalize c.cells.getD k 0 = x at hc n0 n1 HSUM
      generalize hss : (c.cells.take k).sum = s at s0 s1 HSUM
      clear hss
      go_wp2_with fail
      go_roundg (gk - 1)
      case measure => omega
      case rel => exact ⟨k + 1, by simp, by rw [HSUM.out], by omega, by omega, HKH.out, by first | rfl | assumption⟩
    · have hk5' : k = 5 := by omega
      subst hk5'
      have v0 := HCV.out 0
      have v1 := HCV.out 1
      have v2 := HCV.out 2
      have v3 := HCV.out 3
      have v4 := HCV.out 4
      have v5 := HCV.out 5
      have v6 := HCV.out 6
      have v7 := HCV.out 7
      have v8 := HCV.out 8
      have v9 := HCV.out 9
      have v10 := HCV.out 10
      have v11 := HCV.out 11
      simp only [List.getElem?_cons_succ, List.getElem?_cons_zero] at v0 v1 v2 v3 v4 v5 v6 v7 v8 v9 v10 v11
      rw [c.take5]
      skip
      have hn := HH.out.2.1
      have HM := Lib.hid (Model23_c c)
      have HC := Lib.hid (RCheck_ok c HH.out.2.2)
      simp only [Cfg.vals] at HM HC
      go_wp2_with (first | (go_at_call 61; refine (HM.out _).mono ?_; rintro e w3 ⟨rfl, he3⟩) | (go_at_call 74; refine (HC.out _).mono ?_; rintro e w4 ⟨rfl, he4⟩))
      go_ret
      exact ⟨rfl, (hE.trans he3 (by simp)).trans he4 (by simp)⟩
set_option maxHeartbeats 2000000 in
theorem Small23_no (c : Cfg) (h : ¬ c.Small) (w : World) : Calls Try.prog 58 #[.agg c.vals.toArray] w fun e w' => e = .returned (.bool false) ∧ Ext [] w w' := by
  have HH := Lib.hid h
  clear h
  have hE : Ext [] w (w.alloc (.cells c.vals.toArray 24)) := (Ext.refl _ _).alloc _
  simp only [Cfg.vals]
  simp only [Cfg.vals] at hE
  go_enter Try.func58, Try.ntmps58
  go_wp2_with fail
  have hcl : ∀ k : Nat, k < 5 → (w.alloc (.cells c.vals.toArray 24)).cell? ⟨w.heap.size, k, none⟩ = some (.int .i64 (c.cells.getD k 0)) := fun k hk => by
    rw [← Cfg.vals_cell c k hk]; exact (Blk.new w c.vals _).cells k
  have HCL := Lib.hid hcl
  have hcv := (Blk.new w c.vals 24).cells
  have HCV := Lib.hid hcv
  clear hcl hcv
  simp only [Cfg.vals] at HCL HCV
  generalize hWW : w.alloc (.cells (List.toArray [Value.int .i64 c.c0, .int .i64 c.c1, .int .i64 c.c2, .int .i64 c.c3, .int .i64 c.c4, .int .i64 c.markers, .int .i64 c.mutators, .int .i64 c.deque, .int .i64 c.chunk, .int .i64 c.buffer, .int .i64 c.roots, .int .i64 c.sweep]) 24) = W at *
  generalize w.heap.size = g at *
  clear hWW
  go_loopg [4, 3] 5 (fun gk i v wr => ∃ k : Nat, i = .int .i64 (k : Int) ∧ v = .int .i64 ((c.cells.take k).sum) ∧ gk + k = 5 ∧ k ≤ 5 ∧ (∀ j, j < k → 0 ≤ c.cells.getD j 0 ∧ c.cells.getD j 0 ≤ 6) ∧ wr = W)
  case atStart => exact ⟨0, rfl, by simp, by omega, by omega, by intros; omega, by first | rfl | assumption⟩
  case round =>
    obtain ⟨k, rfl, rfl, hgk, hk5, hall, rfl⟩ := hrel
    have HALL := Lib.hid hall
    have hnn := c.take6 k hall hk5
    clear hall
    by_cases hk : k < 5
    · have hk' : (k : Int) < 5 := by omega
      have hc := HCL.out k hk
      have HSUM := Lib.hid (c.take_sum k hk)
      by_cases hin : ¬ (0 ≤ c.cells.getD k 0 ∧ c.cells.getD k 0 ≤ 6)
      · by_cases h0 : c.cells.getD k 0 < 0
        · clear hin
          generalize c.cells.getD k 0 = x at hc HSUM h0
          go_wp2_with fail
          go_ret
          exact ⟨rfl, hE⟩
        · have h6 : 6 < c.cells.getD k 0 := by omega
          clear hin
          generalize c.cells.getD k 0 = x at hc HSUM h0 h6
          go_wp2_with fail
          go_ret
          exact ⟨rfl, hE⟩
      have hin := Classical.not_not.1 hin
      have HK1 : ∀ j, j < k + 1 → 0 ≤ c.cells.getD j 0 ∧ c.cells.getD j 0 ≤ 6 := fun j hj => by
        by_cases e : j = k
        · subst e; exact hin
        · exact HALL.out j (by omega)
      have HKH := Lib.hid HK1
      clear HK1
      obtain ⟨n0, n1⟩ := hin
      obtain ⟨s0, s1⟩ := hnn
      generalize c.cells.getD k 0 = x at hc n0 n1 HSUM
      generalize hss : (c.cells.take k).sum = s at s0 s1 HSUM
      clear hss
      go_wp2_with fail
      go_roundg (gk - 1)
      case measure => omega
      case rel => exact ⟨k + 1, by simp, by rw [HSUM.out], by omega, by omega, HKH.out, by first | rfl | assumption⟩
    · have hk5' : k = 5 := by omega
      subst hk5'
      have v0 := HCV.out 0
      have v1 := HCV.out 1
      have v2 := HCV.out 2
      have v3 := HCV.out 3
      have v4 := HCV.out 4
      have v5 := HCV.out 5
      have v6 := HCV.out 6
      have v7 := HCV.out 7
      have v8 := HCV.out 8
      have v9 := HCV.out 9
      have v10 := HCV.out 10
      have v11 := HCV.out 11
      simp only [List.getElem?_cons_succ, List.getElem?_cons_zero] at v0 v1 v2 v3 v4 v5 v6 v7 v8 v9 v10 v11
      rw [c.take5]
      skip
      by_cases hn : c.nodes ≤ 12
      · have hnok : ¬ c.Ok := fun hok => HH.out ⟨HALL.out, hn, hok⟩
        have HM := Lib.hid (Model23_c c)
        have HC := Lib.hid (RCheck_no c hnok)
        simp only [Cfg.vals] at HM HC
        clear hnok
        go_wp2_with (first | (go_at_call 61; refine (HM.out _).mono ?_; rintro e w3 ⟨rfl, he3⟩) | (go_at_call 74; refine (HC.out _).mono ?_; rintro e w4 ⟨rfl, he4⟩))
        go_ret
        exact ⟨rfl, (hE.trans he3 (by simp)).trans he4 (by simp)⟩
      · go_wp2_with fail
        go_ret
        exact ⟨rfl, hE⟩
end Go.Proofs.Ytcgnficlcgmffaa
