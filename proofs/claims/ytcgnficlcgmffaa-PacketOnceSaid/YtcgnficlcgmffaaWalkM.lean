/-
  The things of a stack; all tasks of packets in the pool (plain).
-/
import Derived.Test.YtcgnficlcgmffaaStk
import Derived.Test.YtcgnficlcgmffaaPk
namespace Go.Proofs.Ytcgnficlcgmffaa
open Go.RowKit

/-- The things from a place on, so many at most. -/
def walkM (lk : Int → Int) (l : List Int) : Nat → Int → List Int
  | 0, _ => []
  | n + 1, p => if 0 ≤ p ∧ p < l.length ∧ wLo (ld l p) ≠ 0 then wLo (ld l p) :: walkM lk l n (lk (wLo (ld l p))) else []
def tasksOf (L : Lay) (l : List Int) (p : Int) : List Int := (List.range (min (ld l (L.manyAt p)) 4).toNat).map fun (j : Nat) => ld l (L.task p j)
def heldM (L : Lay) (l : List Int) : List Int := (walkM L.link l L.many.toNat 4).flatMap (tasksOf L l)

theorem Lay.many_le {L : Lay} (h : L.Ok) : L.many.toNat ≤ 10000 := by have := h.many; omega
theorem walkM_len (lk : Int → Int) (l : List Int) : ∀ n p, (walkM lk l n p).length ≤ n
  | 0, _ => by simp [walkM]
  | n + 1, p => by
    simp only [walkM]
    split
    · simp; exact walkM_len lk l n _
    · simp
theorem walkM_u32 (lk : Int → Int) (l : List Int) : ∀ n p, ∀ x ∈ walkM lk l n p, 1 ≤ x ∧ x < 4294967296
  | 0, _, x, h => by simp [walkM] at h
  | n + 1, p, x, h => by
    simp only [walkM] at h
    split at h
    · rename_i hc
      rcases List.mem_cons.1 h with rfl | h
      · have := wLo_u32 (ld l p); unfold U32 at this; omega
      · exact walkM_u32 lk l n _ x h
    · simp at h


/-- What is walked is what is linked. -/
theorem walk_chain {N : Int} {lk : Int → Int} {mem : List Int} (hlk : ∀ x, 1 ≤ x → x ≤ N → 0 ≤ lk x ∧ lk x < mem.length) : ∀ (l : List Int) (n : Nat) (p : Int), 0 ≤ p → p < mem.length → Chain N lk mem (wLo (ld mem p)) l → l.length ≤ n → walkM lk mem n p = l
  | [], 0, _, _, _, _, _ => rfl
  | [], n + 1, p, h0, h1, h, _ => by
    have : wLo (ld mem p) = 0 := h
    simp only [walkM, this]
    rw [if_neg (by simp)]
  | y :: ys, 0, _, _, _, _, hl => by simp at hl
  | y :: ys, n + 1, p, h0, h1, h, hl => by
    obtain ⟨e, y1, y2, hc⟩ := h
    simp only [walkM]
    rw [if_pos ⟨h0, h1, by rw [e]; omega⟩, e]
    obtain ⟨k0, k1⟩ := hlk y y1 y2
    rw [walk_chain hlk ys n (lk y) k0 k1 hc (by simpa using hl)]
theorem range_len {N : Nat} : ∀ {l : List Int}, l.Nodup → (∀ x ∈ l, 1 ≤ x ∧ x ≤ N) → l.length ≤ N := by
  induction N with
  | zero =>
    intro l _ h
    cases l with
    | nil => simp
    | cons a l => have := h a (by simp); omega
  | succ N ih =>
    intro l hn h
    have hf : (l.filter fun x => decide (x ≠ (N : Int) + 1)).length + 1 ≥ l.length := by
      clear ih h
      induction l with
      | nil => simp
      | cons a l ihl =>
        rw [List.nodup_cons] at hn
        have := ihl hn.2
        rw [List.filter_cons]
        by_cases e : a = (N : Int) + 1
        · rw [if_neg (by simp [e])]
          have hall : (l.filter fun x => decide (x ≠ (N : Int) + 1)) = l := by
            rw [List.filter_eq_self]
            intro x hx
            simp
            intro e2
            rw [e2, ← e] at hx
            exact hn.1 hx
          rw [hall]; simp only [List.length_cons]; omega
        · rw [if_pos (by simpa using e)]; simp only [List.length_cons]; omega
    have hl := ih (l := l.filter fun x => decide (x ≠ (N : Int) + 1)) (hn.filter _) (fun x hx => by
      rw [List.mem_filter] at hx
      have h1 := h x hx.1
      have h2 : x ≠ (N : Int) + 1 := by simpa using hx.2
      omega)
    omega
/-- The pool's tasks, where each packet has one. -/
theorem held_ones {L : Lay} {mem : List Int} {pl : List Int} (G : PGeo L mem.length) (hn : pl.Nodup) (hv : ∀ p ∈ pl, 1 ≤ p ∧ p ≤ L.many) (hC : Chain L.many L.link mem (wLo (ld mem 4)) pl)
    (hF : ∀ p ∈ pl, ∃ t, Full L mem p [t]) : heldM L mem = pl.map fun p => ld mem (L.task p 0) := by
  have G4 := G.geo 4 (.inl rfl)
  have hl : pl.length ≤ L.many.toNat := range_len hn (fun x hx => by have := hv x hx; have := G.many; omega)
  unfold heldM
  rw [walk_chain G4.lk0 pl _ 4 (by omega) G4.hd1 hC hl]
  clear hC hl hn hv
  induction pl with
  | nil => rfl
  | cons p ps ih =>
    rw [List.flatMap_cons, List.map_cons, ih fun q hq => hF q (by simp [hq])]
    obtain ⟨t, h1, h2⟩ := hF p (by simp)
    have h1' : ld mem (L.manyAt p) = 1 := by simpa using h1
    unfold tasksOf
    rw [h1']
    rfl
end Go.Proofs.Ytcgnficlcgmffaa
