/-
  Packets: what a step leaves of what others have (plain).
-/
import Derived.Test.YtcgnficlcgmffaaPk
import Derived.Test.YtcgnficlcgmffaaRun
namespace Go.Proofs.Ytcgnficlcgmffaa
open Go.RowKit
section
variable {L : Lay} {mem mem' : List Int} {loc loc' : Int → Loc} {sp pl : List Int} {i : Nat}
theorem pm_on {m : PM} (I : PkInv L mem loc sp pl) (h : PMInv L mem loc i m) (hpc : m.pc ≠ 0) (hv4 : wHi (ld mem 4) + 1 < 4294967296) (hv5 : wHi (ld mem 5) + 1 < 4294967296) :
    PMOut L mem loc sp pl i m (PM.on L (mem, m)).1 (PM.on L (mem, m)).2 := pm_out (σ := memSt mem) I h hpc hv4 hv5
/-- What isn't this actor's stays as it was. -/
theorem PFr.full (F : PFr L mem mem' loc loc' i) (I : PkInv L mem loc sp pl) {p : Int} {ts : List Int} (hp : 1 ≤ p ∧ p ≤ L.many) (hl : loc p ≠ .act i) (hts : ts.length ≤ 4) (h : Full L mem p ts) : Full L mem' p ts :=
  h.other hts fun _ k0 k1 => F.own I.geo hp.1 hp.2 k0 k1 hl
theorem PFr.ver (F : PFr L mem mem' loc loc' i) : wHi (ld mem' 4) ≤ wHi (ld mem 4) + 1 ∧ wHi (ld mem' 5) ≤ wHi (ld mem 5) + 1 := by
  constructor
  · rcases F.v4 with h | h <;> rw [h] <;> omega
  · rcases F.v5 with h | h <;> rw [h] <;> omega
theorem PkInv.pool (I : PkInv L mem loc sp pl) {p : Int} (h : p ∈ pl) : (1 ≤ p ∧ p ≤ L.many) ∧ loc p = .pool := (I.lpl p).1 h
theorem PFr.task0 (F : PFr L mem mem' loc loc' i) (I : PkInv L mem loc sp pl) {p : Int} (h : p ∈ pl) : ld mem' (L.task p 0) = ld mem (L.task p 0) := by
  obtain ⟨hp, hl⟩ := I.pool h
  rw [task_eq _ _ _ (by omega)]
  exact F.own I.geo hp.1 hp.2 (by omega) (by omega) (by rw [hl]; exact nact_pool)
theorem filter_congr {α : Type} {p q : α → Bool} : ∀ {l : List α}, (∀ x ∈ l, p x = q x) → l.filter p = l.filter q
  | [], _ => rfl
  | a :: l, h => by
    rw [List.filter_cons, List.filter_cons, h a (by simp), filter_congr fun x hx => h x (by simp [hx])]
end
end Go.Proofs.Ytcgnficlcgmffaa
