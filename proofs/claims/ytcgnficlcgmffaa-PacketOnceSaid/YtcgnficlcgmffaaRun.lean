/-
  Machines' steps hang on memory's words alone; runs of them (plain).
-/
import Derived.Test.YtcgnficlcgmffaaLay
namespace Go.Proofs.Ytcgnficlcgmffaa
open Go.RowKit

def memSt (mem : List Int) : St := ⟨0, 0, [], mem, 0⟩
@[simp] theorem memSt_mem (mem : List Int) : (memSt mem).mem = mem := rfl
theorem load_eq {σ τ : St} (h : σ.mem = τ.mem) (a : Int) : σ.load a = τ.load a := by unfold St.load; rw [h]
theorem put_eq {σ τ : St} (h : σ.mem = τ.mem) (a v : Int) : (σ.put a v).mem = (τ.put a v).mem := by simp [St.put, h]
theorem swaps_eq {σ τ : St} (h : σ.mem = τ.mem) (a o : Int) : σ.swaps a o = τ.swaps a o := by unfold St.swaps; rw [load_eq h, h]
theorem swap_eq {σ τ : St} (h : σ.mem = τ.mem) (a o v : Int) : (σ.swap a o v).mem = (τ.swap a o v).mem := by
  unfold St.swap
  rw [swaps_eq h]
  split
  · exact put_eq h a v
  · exact h
theorem add_eq {σ τ : St} (h : σ.mem = τ.mem) (a v : Int) : (σ.add a v).mem = (τ.add a v).mem := by
  unfold St.add
  rw [load_eq h]
  exact put_eq h _ _
theorem sm_eq {lk : Int → Int} {σ τ : St} (h : σ.mem = τ.mem) (m : SM) : (SM.step lk σ m).1.mem = (SM.step lk τ m).1.mem ∧ (SM.step lk σ m).2 = (SM.step lk τ m).2 := by
  unfold SM.step
  rw [load_eq h, load_eq h, swaps_eq h]
  split
  · exact ⟨h, rfl⟩
  · exact ⟨put_eq h _ _, rfl⟩
  · exact ⟨swap_eq h _ _ _, rfl⟩
  · exact ⟨h, rfl⟩
  · exact ⟨h, rfl⟩
  · exact ⟨swap_eq h _ _ _, rfl⟩
  · exact ⟨h, rfl⟩
theorem pm_eq {L : Lay} {σ τ : St} (h : σ.mem = τ.mem) (m : PM) : (PM.step L σ m).1.mem = (PM.step L τ m).1.mem ∧ (PM.step L σ m).2 = (PM.step L τ m).2 := by
  obtain ⟨h1, h2⟩ := sm_eq (lk := L.link) h m.x
  unfold PM.step
  split
  · simp only [h2]
    split
    · split
      · exact ⟨h1, rfl⟩
      · exact ⟨h1, rfl⟩
    · exact ⟨h1, rfl⟩
  · exact ⟨put_eq h _ _, rfl⟩
  · exact ⟨put_eq h _ _, rfl⟩
  · simp only [h2]
    split
    · exact ⟨h1, rfl⟩
    · exact ⟨h1, rfl⟩
  · exact ⟨h, rfl⟩
/-- A step on memory's words; so many. -/
def PM.on (L : Lay) (x : List Int × PM) : List Int × PM := ((PM.step L (memSt x.1) x.2).1.mem, (PM.step L (memSt x.1) x.2).2)
def PM.runs (L : Lay) : Nat → List Int × PM → List Int × PM
  | 0, x => x
  | k + 1, x => PM.on L (PM.runs L k x)
theorem PM.on_step (L : Lay) (σ : St) (m : PM) : ((PM.step L σ m).1.mem, (PM.step L σ m).2) = PM.on L (σ.mem, m) := by
  obtain ⟨h1, h2⟩ := pm_eq (L := L) (σ := σ) (τ := memSt σ.mem) rfl m
  unfold PM.on
  rw [h1, h2]
theorem PM.on_done (L : Lay) (x : List Int × PM) (h : x.2.pc = 0) : PM.on L x = x := by
  unfold PM.on PM.step
  rw [h]
  rfl
end Go.Proofs.Ytcgnficlcgmffaa
