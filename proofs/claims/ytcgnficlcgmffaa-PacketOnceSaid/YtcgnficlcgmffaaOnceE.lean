/-
  Law PacketOnce: its end (plain).
-/
import Derived.Test.YtcgnficlcgmffaaOnce
namespace Go.Proofs.Ytcgnficlcgmffaa
open Go.RowKit

def bump (s : List Int) (h : Int) : List Int := s.set h.toNat (s.getD h.toNat 0 + 1)
def bumps (s l : List Int) : List Int := l.foldl bump s
theorem bump_len (s : List Int) (h : Int) : (bump s h).length = s.length := by simp [bump]
theorem bumps_len : ∀ (l s : List Int), (bumps s l).length = s.length
  | [], _ => rfl
  | h :: l, s => by
    show (bumps (bump s h) l).length = _
    rw [bumps_len l, bump_len]
theorem bumps_getD : ∀ (l s : List Int), (∀ h ∈ l, 0 ≤ h ∧ h < s.length) → ∀ t : Nat, t < s.length → (bumps s l).getD t 0 = s.getD t 0 + ((l.filter fun h => decide (h = (t : Int))).length : Nat)
  | [], s, _, t, _ => by simp [bumps]
  | h :: l, s, hl, t, ht => by
    have h1 := hl h (by simp)
    show (bumps (bump s h) l).getD t 0 = _
    rw [bumps_getD l (bump s h) (fun x hx => by rw [bump_len]; exact hl x (by simp [hx])) t (by rw [bump_len]; exact ht)]
    rw [List.filter_cons]
    by_cases e : h = (t : Int)
    · subst e
      have e2 : (bump s t).getD t 0 = s.getD t 0 + 1 := by
        unfold bump
        simp [List.getD_eq_getElem?_getD, ht]
      rw [e2]
      simp
      omega
    · have e2 : (bump s h).getD t 0 = s.getD t 0 := by
        unfold bump
        have : h.toNat ≠ t := by omega
        simp [List.getD_eq_getElem?_getD, this]
      rw [e2]
      simp [e]
theorem bumps_take (s l : List Int) (j : Nat) (hj : j < l.length) : bumps s (l.take (j + 1)) = bump (bumps s (l.take j)) (l.getD j 0) := by
  unfold bumps
  rw [List.take_add_one, List.getElem?_eq_getElem hj, Option.toList_some, List.foldl_append]
  simp [hj]
/-- On the way each count is small. -/
theorem bumps_in {s l : List Int} (hl : ∀ h ∈ l, 0 ≤ h ∧ h < s.length) {t : Nat} (ht : t < s.length) {lo : Int} (h0 : lo ≤ s.getD t 0) (h1 : (bumps s l).getD t 0 ≤ 1) (j : Nat) : lo ≤ (bumps s (l.take j)).getD t 0 ∧ (bumps s (l.take j)).getD t 0 ≤ 1 := by
  rw [bumps_getD l s hl t ht] at h1
  rw [bumps_getD (l.take j) s (fun h hh => hl h (List.mem_of_mem_take hh)) t ht]
  have := ((List.take_sublist j l).filter fun h => decide (h = (t : Int))).length_le
  omega
namespace OS
variable {L : Lay} {acts picks : List Int} {S : OS}
theorem isPut_le (t : Int) (o : Option OA) : isPut t o ≤ 1 := by
  unfold isPut
  split
  · split <;> omega
  · omega
theorem Inv.seen_in {v : Int} (I : Inv L S v) (hm : L.many ≤ 400) {t : Int} (t1 : 1 ≤ t) (t2 : t ≤ S.put) : -500 ≤ S.seen.getD t.toNat 0 ∧ S.seen.getD t.toNat 0 ≤ 1 := by
  obtain ⟨⟨loc, sp, pl, P, hA, hN, hS, hF, hC⟩, _⟩ := I
  have h := hC t t1 t2
  have h1 : inPool L S.mem pl t ≤ pl.length := List.length_filter_le _ _
  have h2 : pl.length ≤ L.many.toNat := range_len P.npl (fun x hx => by have := (P.pool hx).1; omega)
  have a0 := isPut_le t (S.w 0)
  have a1 := isPut_le t (S.w 1)
  have a2 := isPut_le t (S.w 2)
  have h3 : (sum3 fun k => isPut t (S.w k)) = isPut t (S.w 0) + isPut t (S.w 1) + isPut t (S.w 2) := rfl
  omega
theorem end_seen {mem : List Int} (hm : L.many ≤ 400) (hpk : ∀ x ∈ picks, 0 ≤ x) (hl : (picks.length : Int) ≤ 90000) (I0 : Inv L (run L acts picks mem 0) 1) :
    Wds (run L acts picks mem (picks.length + 90)).mem ∧ (run L acts picks mem (picks.length + 90)).mem ≠ [] ∧ (heldM L (run L acts picks mem (picks.length + 90)).mem).length ≤ 400 ∧
    (∀ h ∈ heldM L (run L acts picks mem (picks.length + 90)).mem, 1 ≤ h ∧ h ≤ (run L acts picks mem (picks.length + 90)).put) ∧
    ∀ t : Nat, 1 ≤ t → t ≤ (run L acts picks mem (picks.length + 90)).put → -500 ≤ (run L acts picks mem (picks.length + 90)).seen.getD t 0 ∧ (bumps (run L acts picks mem (picks.length + 90)).seen (heldM L (run L acts picks mem (picks.length + 90)).mem)).getD t 0 = 1 := by
  obtain ⟨pl, hn, hv, hC, hF, hS⟩ := end_all L acts picks hm hpk hl I0
  have I := run_inv L acts picks hm hpk I0 100000 (Int.le_refl _) (picks.length + 90) (by omega)
  generalize run L acts picks mem (picks.length + 90) = S at *
  obtain ⟨⟨loc, sp, pl', P, _⟩, hp, hse, _⟩ := id I
  have hmany := P.geo.many
  have hO := held_ones P.geo hn hv hC (fun p h => by obtain ⟨t, _, _, h⟩ := hF p h; exact ⟨t, h⟩)
  have hr : ∀ h ∈ heldM L S.mem, 1 ≤ h ∧ h ≤ S.put := fun h hh => by
    rw [hO] at hh
    obtain ⟨p, hpl, rfl⟩ := List.mem_map.1 hh
    obtain ⟨t, t1, t2, f1, f2⟩ := hF p hpl
    have := f2 0 (by simp)
    simp at this
    omega
  refine ⟨P.wds, ?_, ?_, hr, fun t t1 t2 => ?_⟩
  · have := (P.geo.geo 4 (.inl rfl)).hd1
    intro e
    rw [e] at this
    simp at this
  · rw [hO, List.length_map]
    have := range_len (N := L.many.toNat) hn (fun x hx => by have := hv x hx; omega)
    omega
  · have hsi := I.seen_in hm (t := t) (by omega) (by omega)
    rw [Int.toNat_natCast] at hsi
    refine ⟨hsi.1, ?_⟩
    rw [bumps_getD _ _ (fun h hh => by have := hr h hh; omega) t (by omega)]
    have h := hS t (by omega) (by omega)
    rw [Int.toNat_natCast] at h
    rw [← h]
    congr 2
    rw [hO]
    unfold inPool
    rw [List.filter_map, List.length_map]
    rfl
end OS
end Go.Proofs.Ytcgnficlcgmffaa
