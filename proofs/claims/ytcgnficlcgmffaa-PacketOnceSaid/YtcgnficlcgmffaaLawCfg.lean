/-
  What the laws ask of a configuration: dustmanref05.Check, small, model.
-/
import Derived.Deep.LoopGhost
import Derived.Test.YtcgnficlcgmffaaSizes
namespace Go.Proofs.Ytcgnficlcgmffaa
open Go.RowKit

/-- Is a number from one to another? (closed to simp) -/
def inB (lo n hi : Int) : Bool := decide (lo ≤ n ∧ n ≤ hi)
theorem inB_iff {lo n hi : Int} : inB lo n hi = true ↔ lo ≤ n ∧ n ≤ hi := by simp [inB]
theorem rIn_c (n lo hi : Int) (w : World) : Calls Try.prog 136 #[.int .i64 n, .int .i64 lo, .int .i64 hi] w fun e w' => e = .returned (.bool (inB lo n hi)) ∧ w = w' := by
  by_cases h1 : lo ≤ n
  · by_cases h2 : n ≤ hi
    · have e : inB lo n hi = true := by simp [inB, h1, h2]
      rw [e]
      go_enter Try.func136, Try.ntmps136
      go_wp2
      go_ret
      simp [h1, h2]
    · have e : inB lo n hi = false := by simp [inB, h2]
      rw [e]
      go_enter Try.func136, Try.ntmps136
      go_wp2
      go_ret
      simp [h2]
  · have e : inB lo n hi = false := by simp [inB, h1]
    rw [e]
    go_enter Try.func136, Try.ntmps136
    go_wp2
    go_ret
    simp [h1]
def errOf (b : Bool) : Int := if b then 0 else 21

def Cfg.pos (c : Cfg) (k : Nat) : Bool := decide (0 < (c.cells.take k).sum)
theorem Cfg.vals_cell (c : Cfg) (k : Nat) (h : k < 5) : c.vals[k]? = some (.int .i64 (c.cells.getD k 0)) := by
  have : k = 0 ∨ k = 1 ∨ k = 2 ∨ k = 3 ∨ k = 4 := by omega
  rcases this with rfl | rfl | rfl | rfl | rfl <;> rfl
theorem Cfg.take_sum (c : Cfg) (k : Nat) (h : k < 5) : (c.cells.take (k + 1)).sum = (c.cells.take k).sum + c.cells.getD k 0 := by
  have : k = 0 ∨ k = 1 ∨ k = 2 ∨ k = 3 ∨ k = 4 := by omega
  rcases this with rfl | rfl | rfl | rfl | rfl <;> simp [Cfg.cells] <;> omega
theorem Cfg.take_nn (c : Cfg) (k : Nat) (h : ∀ j, j < k → 0 ≤ c.cells.getD j 0 ∧ c.cells.getD j 0 ≤ 12) (hk : k ≤ 5) : 0 ≤ (c.cells.take k).sum ∧ (c.cells.take k).sum ≤ 12 * k := by
  induction k with
  | zero => simp
  | succ k ih =>
    have h1 := ih (fun j hj => h j (by omega)) (by omega)
    have h2 := h k (by omega)
    rw [c.take_sum k (by omega)]
    omega
theorem Cfg.cellsOk_of (c : Cfg) (h : ∀ j, j < 5 → 0 ≤ c.cells.getD j 0 ∧ c.cells.getD j 0 ≤ 12) : c.CellsOk :=
  ⟨h 0 (by omega), h 1 (by omega), h 2 (by omega), h 3 (by omega), h 4 (by omega)⟩
theorem Cfg.cellsOk_at (c : Cfg) (h : c.CellsOk) : ∀ j, j < 5 → 0 ≤ c.cells.getD j 0 ∧ c.cells.getD j 0 ≤ 12 := by
  intro j hj
  have : j = 0 ∨ j = 1 ∨ j = 2 ∨ j = 3 ∨ j = 4 := by omega
  rcases this with rfl | rfl | rfl | rfl | rfl
  · exact h.h0
  · exact h.h1
  · exact h.h2
  · exact h.h3
  · exact h.h4
theorem Cfg.take5 (c : Cfg) : (c.cells.take 5).sum = c.nodes := by simp [Cfg.cells, Cfg.nodes]; omega

set_option maxHeartbeats 4000000 in
theorem RCheck_ok (c : Cfg) (h : c.Ok) (w : World) : Calls Try.prog 74 #[.agg c.vals.toArray] w fun e w' => e = .returned (.int .i64 0) ∧ Ext [] w w' := by
  have HH := Lib.hid h
  clear h
  have hV : Blk (w.alloc (.cells c.vals.toArray 50)) w.heap.size c.vals 50 := Blk.new _ _ _
  have hE : Ext [] w (w.alloc (.cells c.vals.toArray 50)) := (Ext.refl _ _).alloc _
  simp only [Cfg.vals]
  simp only [Cfg.vals] at hV hE
  go_enter Try.func74, Try.ntmps74
  go_wp2_with fail
  have hcl : ∀ k : Nat, k < 5 → (w.alloc (.cells c.vals.toArray 50)).cell? ⟨w.heap.size, k, none⟩ = some (.int .i64 (c.cells.getD k 0)) := fun k hk => by
    rw [← Cfg.vals_cell c k hk]; exact (Blk.new w c.vals _).cells k
  have HCL := Lib.hid hcl
  have hcv := (Blk.new w c.vals 50).cells
  have HCV := Lib.hid hcv
  clear hcl hcv
  simp only [Cfg.vals] at HCL HCV
  generalize hWW : w.alloc (.cells (List.toArray [Value.int .i64 c.c0, .int .i64 c.c1, .int .i64 c.c2, .int .i64 c.c3, .int .i64 c.c4, .int .i64 c.markers, .int .i64 c.mutators, .int .i64 c.deque, .int .i64 c.chunk, .int .i64 c.buffer, .int .i64 c.roots, .int .i64 c.sweep]) 50) = W at *
  generalize w.heap.size = g at *
  clear hWW
  go_loopg [4, 3] 5 (fun gk i v wr => ∃ k : Nat, i = .int .i64 (k : Int) ∧ v = .bool (c.pos k) ∧ gk + k = 5 ∧ k ≤ 5 ∧ (∀ j, j < k → 0 ≤ c.cells.getD j 0 ∧ c.cells.getD j 0 ≤ 12) ∧ wr = W)
  case atStart => exact ⟨0, rfl, by simp [Cfg.pos], by omega, by omega, by intros; omega, by first | rfl | assumption⟩
  case round =>
    obtain ⟨k, rfl, rfl, hgk, hk5, hall, rfl⟩ := hrel
    have HALL := Lib.hid hall
    have hnn := c.take_nn k hall hk5
    clear hall
    by_cases hk : k < 5
    · have hk' : (k : Int) < 5 := by omega
      have hc := HCL.out k hk
      have hsum := c.take_sum k hk
      have hpk : c.pos (k + 1) = decide (0 < (c.cells.take k).sum + c.cells.getD k 0) := by unfold Cfg.pos; rw [hsum]
      have HPK := Lib.hid hpk
      clear hpk hsum
      have hin := c.cellsOk_at HH.out.cells k hk
      have hind : inB 0 (c.cells.getD k 0) 12 = true := inB_iff.2 hin
      have HK1 : ∀ j, j < k + 1 → 0 ≤ c.cells.getD j 0 ∧ c.cells.getD j 0 ≤ 12 := fun j hj => by
        by_cases e : j = k
        · subst e; exact hin
        · exact HALL.out j (by omega)
      have HKH := Lib.hid HK1
      clear HK1
      obtain ⟨n0, n1⟩ := hin
      obtain ⟨s0, s1⟩ := hnn
      have hp : c.pos k = decide (0 < (c.cells.take k).sum) := rfl
      have HP := Lib.hid hp
      clear hp
      generalize c.cells.getD k 0 = x at hc n0 n1 HPK hind
      generalize (c.cells.take k).sum = s at s0 s1 HP HPK
      by_cases hs : 0 < s
      · have hpt : c.pos k = true := by rw [HP.out]; simpa using hs
        have hpt1 : c.pos (k + 1) = true := by rw [HPK.out]; simp; omega
        rw [hpt]
        have HPT1 := Lib.hid hpt1
        clear hpt hpt1
        go_wp2_with (go_at_call 136; refine (rIn_c _ _ _ _).mono ?_; rintro e w3 ⟨rfl, rfl⟩)
        go_roundg (gk - 1)
        case measure => omega
        case rel => exact ⟨k + 1, by simp, by rw [HPT1.out], by omega, by omega, HKH.out, by first | rfl | assumption⟩
      · have hpt : c.pos k = false := by rw [HP.out]; simpa using hs
        have hpt1 : c.pos (k + 1) = decide (0 < x) := by rw [HPK.out]; exact decide_eq_decide.2 (by omega)
        rw [hpt]
        have HPT1 := Lib.hid hpt1
        clear hpt hpt1
        by_cases hx : 0 < x
        · go_wp2_with (go_at_call 136; refine (rIn_c _ _ _ _).mono ?_; rintro e w3 ⟨rfl, rfl⟩)
          go_roundg (gk - 1)
          case measure => omega
          case rel => exact ⟨k + 1, by simp, (by rw [HPT1.out]; first | done | simp [hx]), by omega, by omega, HKH.out, by first | rfl | assumption⟩
        · go_wp2_with (go_at_call 136; refine (rIn_c _ _ _ _).mono ?_; rintro e w3 ⟨rfl, rfl⟩)
          go_roundg (gk - 1)
          case measure => omega
          case rel => exact ⟨k + 1, by simp, (by rw [HPT1.out]; first | done | simp [hx]), by omega, by omega, HKH.out, by first | rfl | assumption⟩
    · have hk5' : k = 5 := by omega
      subst hk5'
      have hck := c.cellsOk_of HALL.out
      have hposn : c.pos 5 = decide (1 ≤ c.nodes) := by unfold Cfg.pos; rw [c.take5]; exact decide_eq_decide.2 (by omega)
      have HPN := Lib.hid hposn
      have HCK := Lib.hid hck
      have v5 := HCV.out 5
      have v6 := HCV.out 6
      have v7 := HCV.out 7
      have v8 := HCV.out 8
      have v9 := HCV.out 9
      have v10 := HCV.out 10
      have v11 := HCV.out 11
      simp only [List.getElem?_cons_succ, List.getElem?_cons_zero] at v5 v6 v7 v8 v9 v10 v11
      clear hposn hck
      rw [HPN.out]
      skip
      have hn := HH.out.some
      have hd : decide (1 ≤ c.nodes) = true := by simpa using hn
      rw [hd]
      clear hd
      have i1 := inB_iff.2 HH.out.markers
      have i2 := inB_iff.2 HH.out.mutators
      have i3 := inB_iff.2 HH.out.deque
      have i4 := inB_iff.2 HH.out.chunk
      have i5 := inB_iff.2 HH.out.buffer
      have i6 := inB_iff.2 HH.out.roots
      have i7 := inB_iff.2 HH.out.sweep
      go_wp2_with (go_at_call 136; refine (rIn_c _ _ _ _).mono ?_; rintro e w3 ⟨rfl, rfl⟩)
      go_ret
      exact ⟨rfl, hE⟩

set_option maxHeartbeats 4000000 in
theorem RCheck_no (c : Cfg) (h : ¬ c.Ok) (w : World) : Calls Try.prog 74 #[.agg c.vals.toArray] w fun e w' => e = .returned (.int .i64 21) ∧ Ext [] w w' := by
  have HH := Lib.hid h
  clear h
  have hV : Blk (w.alloc (.cells c.vals.toArray 50)) w.heap.size c.vals 50 := Blk.new _ _ _
  have hE : Ext [] w (w.alloc (.cells c.vals.toArray 50)) := (Ext.refl _ _).alloc _
  simp only [Cfg.vals]
  simp only [Cfg.vals] at hV hE
  go_enter Try.func74, Try.ntmps74
  go_wp2_with fail
  have hcl : ∀ k : Nat, k < 5 → (w.alloc (.cells c.vals.toArray 50)).cell? ⟨w.heap.size, k, none⟩ = some (.int .i64 (c.cells.getD k 0)) := fun k hk => by
    rw [← Cfg.vals_cell c k hk]; exact (Blk.new w c.vals _).cells k
  have HCL := Lib.hid hcl
  have hcv := (Blk.new w c.vals 50).cells
  have HCV := Lib.hid hcv
  clear hcl hcv
  simp only [Cfg.vals] at HCL HCV
  generalize hWW : w.alloc (.cells (List.toArray [Value.int .i64 c.c0, .int .i64 c.c1, .int .i64 c.c2, .int .i64 c.c3, .int .i64 c.c4, .int .i64 c.markers, .int .i64 c.mutators, .int .i64 c.deque, .int .i64 c.chunk, .int .i64 c.buffer, .int .i64 c.roots, .int .i64 c.sweep]) 50) = W at *
  generalize w.heap.size = g at *
  clear hWW
  go_loopg [4, 3] 5 (fun gk i v wr => ∃ k : Nat, i = .int .i64 (k : Int) ∧ v = .bool (c.pos k) ∧ gk + k = 5 ∧ k ≤ 5 ∧ (∀ j, j < k → 0 ≤ c.cells.getD j 0 ∧ c.cells.getD j 0 ≤ 12) ∧ wr = W)
  case atStart => exact ⟨0, rfl, by simp [Cfg.pos], by omega, by omega, by intros; omega, by first | rfl | assumption⟩
  case round =>
    obtain ⟨k, rfl, rfl, hgk, hk5, hall, rfl⟩ := hrel
    have HALL := Lib.hid hall
    have hnn := c.take_nn k hall hk5
    clear hall
    by_cases hk : k < 5
    · have hk' : (k : Int) < 5 := by omega
      have hc := HCL.out k hk
      have hsum := c.take_sum k hk
      have hpk : c.pos (k + 1) = decide (0 < (c.cells.take k).sum + c.cells.getD k 0) := by unfold Cfg.pos; rw [hsum]
      have HPK := Lib.hid hpk
      clear hpk hsum
      by_cases hin : ¬ (0 ≤ c.cells.getD k 0 ∧ c.cells.getD k 0 ≤ 12)
      · have hind : inB 0 (c.cells.getD k 0) 12 = false := by
          cases hb : inB 0 (c.cells.getD k 0) 12 with
          | false => rfl
          | true => exact absurd (inB_iff.1 hb) hin
        clear hin
        generalize c.cells.getD k 0 = x at hc HPK hind
        go_wp2_with (go_at_call 136; refine (rIn_c _ _ _ _).mono ?_; rintro e w3 ⟨rfl, rfl⟩)
        go_ret
        exact ⟨rfl, hE⟩
      have hin := Classical.not_not.1 hin
      have hind : inB 0 (c.cells.getD k 0) 12 = true := inB_iff.2 hin
      have HK1 : ∀ j, j < k + 1 → 0 ≤ c.cells.getD j 0 ∧ c.cells.getD j 0 ≤ 12 := fun j hj => by
        by_cases e : j = k
        · subst e; exact hin
        · exact HALL.out j (by omega)
      have HKH := Lib.hid HK1
      clear HK1
      obtain ⟨n0, n1⟩ := hin
      obtain ⟨s0, s1⟩ := hnn
      have hp : c.pos k = decide (0 < (c.cells.take k).sum) := rfl
      have HP := Lib.hid hp
      clear hp
      generalize c.cells.getD k 0 = x at hc n0 n1 HPK hind
      generalize (c.cells.take k).sum = s at s0 s1 HP HPK
      by_cases hs : 0 < s
      · have hpt : c.pos k = true := by rw [HP.out]; simpa using hs
        have hpt1 : c.pos (k + 1) = true := by rw [HPK.out]; simp; omega
        rw [hpt]
        have HPT1 := Lib.hid hpt1
        clear hpt hpt1
        go_wp2_with (go_at_call 136; refine (rIn_c _ _ _ _).mono ?_; rintro e w3 ⟨rfl, rfl⟩)
        go_roundg (gk - 1)
        case measure => omega
        case rel => exact ⟨k + 1, by simp, by rw [HPT1.out], by omega, by omega, HKH.out, by first | rfl | assumption⟩
      · have hpt : c.pos k = false := by rw [HP.out]; simpa using hs
        have hpt1 : c.pos (k + 1) = decide (0 < x) := by rw [HPK.out]; exact decide_eq_decide.2 (by omega)
        rw [hpt]
        have HPT1 := Lib.hid hpt1
        clear hpt hpt1
        by_cases hx : 0 < x
        · go_wp2_with (go_at_call 136; refine (rIn_c _ _ _ _).mono ?_; rintro e w3 ⟨rfl, rfl⟩)
          go_roundg (gk - 1)
          case measure => omega
          case rel => exact ⟨k + 1, by simp, (by rw [HPT1.out]; first | done | simp [hx]), by omega, by omega, HKH.out, by first | rfl | assumption⟩
        · go_wp2_with (go_at_call 136; refine (rIn_c _ _ _ _).mono ?_; rintro e w3 ⟨rfl, rfl⟩)
          go_roundg (gk - 1)
          case measure => omega
          case rel => exact ⟨k + 1, by simp, (by rw [HPT1.out]; first | done | simp [hx]), by omega, by omega, HKH.out, by first | rfl | assumption⟩
    · have hk5' : k = 5 := by omega
      subst hk5'
      have hck := c.cellsOk_of HALL.out
      have hposn : c.pos 5 = decide (1 ≤ c.nodes) := by unfold Cfg.pos; rw [c.take5]; exact decide_eq_decide.2 (by omega)
      have HPN := Lib.hid hposn
      have HCK := Lib.hid hck
      have v5 := HCV.out 5
      have v6 := HCV.out 6
      have v7 := HCV.out 7
      have v8 := HCV.out 8
      have v9 := HCV.out 9
      have v10 := HCV.out 10
      have v11 := HCV.out 11
      simp only [List.getElem?_cons_succ, List.getElem?_cons_zero] at v5 v6 v7 v8 v9 v10 v11
      clear hposn hck
      rw [HPN.out]
      skip
      by_cases hn : 1 ≤ c.nodes
      · have hd : decide (1 ≤ c.nodes) = true := by simpa using hn
        rw [hd]
        have HNO := Lib.hid (show inB 1 c.markers 4 = true → inB 1 c.mutators 4 = true → inB 2 c.deque 8 = true → inB 1 c.chunk 16 = true → inB 1 c.buffer 4 = true → inB 1 c.roots 8 = true → inB 1 c.sweep 16 = true → False from fun a1 a2 a3 a4 a5 a6 a7 =>
          HH.out ⟨HCK.out, hn, inB_iff.1 a1, inB_iff.1 a2, inB_iff.1 a3, inB_iff.1 a4, inB_iff.1 a5, inB_iff.1 a6, inB_iff.1 a7⟩)
        clear hd
        go_wp2_with (go_at_call 136; refine (rIn_c _ _ _ _).mono ?_; rintro e w3 ⟨rfl, rfl⟩)
        all_goals go_ret
        all_goals first | exact ⟨rfl, hE⟩ | exact absurd trivial (fun _ => HNO.out (by assumption) (by assumption) (by assumption) (by assumption) (by assumption) (by assumption) (by cases hb : inB 1 c.sweep 16 <;> simp_all))
      · have hd : decide (1 ≤ c.nodes) = false := by simpa using hn
        rw [hd]
        clear hd
        go_wp2_with (go_at_call 136; refine (rIn_c _ _ _ _).mono ?_; rintro e w3 ⟨rfl, rfl⟩)
        all_goals go_ret
        all_goals exact ⟨rfl, hE⟩
end Go.Proofs.Ytcgnficlcgmffaa
