/-
  A region that draws its order: quiet operations may be walked first, in the text's order; what writes or makes memory comes behind them, in its one order.
-/
import Derived.Deep.Quiet
import Derived.Deep.RegionHeld3
import Derived.StillTail
namespace Go.Proofs.Ytcgnficlcgmffaa
section
variable {P : Program} {ops : Array Oper} {C : World → Prop} {Q : Exit → Act → World → Prop}

/-- Tags: 0: quiet, and ahead of the tail by its edges; 1: pure, may float; 2: tail. -/
def rgTag (m : List Nat) (i : Nat) : Nat := m.getD i 2
def rgTails : Nat → List Nat → List Nat
  | _, [] => []
  | k, g :: gs => if g = 2 then k :: rgTails (k + 1) gs else rgTails (k + 1) gs
def rgTailOps : List Oper → List Nat → List Oper
  | o :: l, g :: gs => if g = 2 then o :: rgTailOps l gs else rgTailOps l gs
  | _, _ => []
def rgTailOK (ops : Array Oper) : List Nat → Array Bool → Bool
  | [], listed => (Region.ready .any ops listed).isEmpty
  | t :: T, listed => decide (Region.ready .any ops listed = [t]) && rgTailOK ops T (listed.setIfInBounds t true)
def rgHeadOK (ops : Array Oper) (T : List Nat) : Nat → List Nat → Array Bool → Bool
  | _, [], listed => rgTailOK ops T listed
  | k, g :: gs, listed =>
    if g = 2 then rgHeadOK ops T (k + 1) gs listed
    else (Region.ready .any ops listed).contains k && Region.free .any ops listed k && rgHeadOK ops T (k + 1) gs (listed.setIfInBounds k true)
/-- Who is near leads to the first of the tail. -/
def rgNearOK (ops : Array Oper) (m : List Nat) (t1 : Nat) : Bool :=
  (List.range ops.size).all fun i => decide (rgTag m i ≠ 0) || (List.range ops.size).any fun j => decide (i < j) && Region.waitsFor .any ops j i && (decide (j = t1) || decide (rgTag m j = 0))
/-- Whoever is of the tail, but the first, waits for one of the tail. -/
def rgRestOK (ops : Array Oper) (m : List Nat) (t1 : Nat) : Bool :=
  (List.range ops.size).all fun i => decide (rgTag m i ≠ 2) || decide (i = t1) || (List.range ops.size).any fun j => decide (rgTag m j = 2) && Region.waitsFor .any ops i j
def rgOK (ops : Array Oper) (m : List Nat) : Bool :=
  match rgTails 0 m with
  | [] => false
  | t1 :: T => Region.noSelect ops && decide (m.length = ops.size) && rgNearOK ops m t1 && rgRestOK ops m t1 && rgHeadOK ops (t1 :: T) 0 m (Array.replicate ops.size false)

/-- No one of the tail was listed; what is listed has all listed that it waits for. -/
structure RgInv (ops : Array Oper) (m : List Nat) (listed : Array Bool) : Prop where
  size : listed.size = ops.size
  closed : ∀ j oj, ops[j]? = some oj → listed.getD j false = true → ∀ e ∈ oj.after, Region.binds .any e = true → listed.getD e.on false = true
  tail : ∀ t, t < ops.size → rgTag m t = 2 → listed.getD t true = false

theorem RgInv.set {m : List Nat} {i : Nat} {listed : Array Bool} (inv : RgInv ops m listed) (hi : i ∈ Region.ready .any ops listed) (hin : rgTag m i ≠ 2) : RgInv ops m (listed.setIfInBounds i true) := by
  obtain ⟨_, oi, hoi, hall⟩ := mem_ready.1 hi
  refine ⟨by simp [inv.size], fun j oj hj hl e he hb => ?_, fun t ht ht' => ?_⟩
  · by_cases hij : i = j
    · subst hij
      have : oj = oi := Option.some.inj (hj.symm.trans hoi)
      subst this
      exact getD_set_true (hall e he hb)
    · rw [getD_set_ne false hij] at hl
      exact getD_set_true (inv.closed j oj hj hl e he hb)
  · have : i ≠ t := fun h => hin (by rw [h]; exact ht')
    rw [getD_set_ne true this]
    exact inv.tail t ht ht'

theorem rg_rest_waits {m : List Nat} {t1 : Nat} {listed : Array Bool} (hr : rgRestOK ops m t1 = true) (inv : RgInv ops m listed) {j : Nat} (hj : j ∈ Region.ready .any ops listed) (h2 : rgTag m j = 2) : j = t1 := by
  obtain ⟨_, oj, hoj, hall⟩ := mem_ready.1 hj
  have hlt : j < ops.size := (Array.getElem?_eq_some_iff.1 hoj).1
  have h := List.all_eq_true.1 hr j (List.mem_range.2 hlt)
  simp only [h2, ne_eq, not_true_eq_false, decide_false, Bool.false_or, Bool.or_eq_true, decide_eq_true_eq] at h
  rcases h with h | h
  · exact h
  · obtain ⟨k, hk, hk2⟩ := List.any_eq_true.1 h
    simp only [Bool.and_eq_true, decide_eq_true_eq] at hk2
    obtain ⟨o', ho', e, he, hb, hon⟩ := Region.waitsFor_spec hk2.2
    have : o' = oj := Option.some.inj (ho'.symm.trans hoj)
    subst this
    have h3 := hall e he hb
    rw [hon, getD_both (inv.tail k (List.mem_range.1 hk) hk2.1)] at h3
    cases h3

theorem rg_near_waits {m : List Nat} {t1 : Nat} {listed : Array Bool} (hn : rgNearOK ops m t1 = true) (inv : RgInv ops m listed) :
    ∀ (d i : Nat), ops.size - i = d → i < ops.size → rgTag m i = 0 → listed.getD i true = false → t1 ∉ Region.ready .any ops listed := by
  intro d
  induction d using Nat.strongRecOn with
  | _ d ih =>
    intro i hd hi h0 hun hr
    have h := List.all_eq_true.1 hn i (List.mem_range.2 hi)
    simp only [h0, ne_eq, not_true_eq_false, decide_false, Bool.false_or] at h
    obtain ⟨j, hj, hj2⟩ := List.any_eq_true.1 h
    simp only [Bool.and_eq_true, Bool.or_eq_true, decide_eq_true_eq] at hj2
    obtain ⟨⟨hij, hw⟩, hj3⟩ := hj2
    have hjlt := List.mem_range.1 hj
    obtain ⟨oj, hoj, e, he, hb, hon⟩ := Region.waitsFor_spec hw
    rcases hj3 with hj3 | hj3
    · subst hj3
      obtain ⟨_, ot, hot, hall⟩ := mem_ready.1 hr
      have : oj = ot := Option.some.inj (hoj.symm.trans hot)
      subst this
      have h2 := hall e he hb
      rw [hon, getD_both hun] at h2
      cases h2
    · cases hl : listed.getD j false with
      | true =>
        have h2 := inv.closed j oj hoj hl e he hb
        rw [hon, getD_both hun] at h2
        cases h2
      | false => exact ih (ops.size - j) (by omega) j rfl hjlt hj3 (getD_in (by rw [inv.size]; exact hjlt) hl) hr

/-- Whatever order is picked, as long as no one of the tail came up. -/
def wpN (P : Program) (ops : Array Oper) (C : World → Prop) (m : List Nat) (t1 : Nat) (Q : Exit → Act → World → Prop) : Nat → Array Bool → Act → Prop
  | 0, _, _ => False
  | f + 1, listed, a => Region.ready .any ops listed ≠ [] ∧ ∀ i ∈ Region.ready .any ops listed,
      (rgTag m i ≠ 2 ∧ qOp P ops C i (wpN P ops C m t1 Q f (listed.setIfInBounds i true)) a) ∨
      (i = t1 ∧ ∀ w, C w → wpOp P ops Q i (wpAny P .any ops Q f (listed.setIfInBounds i true)) a w)

theorem wpN_sound {m : List Nat} {t1 : Nat} : ∀ (f : Nat) (listed : Array Bool) (a : Act), wpN P ops C m t1 Q f listed a → ∀ w, C w → wpAny P .any ops Q f listed a w
  | 0, _, _, h, _, _ => h.elim
  | f + 1, listed, a, h, w, hw => by
    refine ⟨fun h0 => absurd h0 h.1, fun i hi => ?_⟩
    rcases h.2 i hi with ⟨_, hq⟩ | ⟨_, ht⟩
    · exact wpOp_of_qOp hw (fun a' w' hw' hK => wpN_sound f _ a' hK w' hw') hq
    · exact ht w hw

theorem qOp_swap {j : Nat} {oi oj : Oper} {v : Value} (hj : ops[j]? = some oj) (hap : oi.apart ops oj = true)
    (hsj : ∀ cs b, oj.op ≠ .select cs b) {K : Act → Prop} {a : Act} (h : qOp P ops C j K (a.put oi.dst v)) :
    ∃ u, YieldsIn P ops C oj u a ∧ K ((a.put oj.dst u).put oi.dst v) := by
  obtain ⟨h1, h2, h3⟩ := Oper.apart_spec hap
  obtain ⟨u, hu, hK⟩ := yieldsIn_of_qOp hj h
  exact ⟨u, hu.of_same (execOp_put oj hsj a oi.dst v h1).symm (wanted_put oj a oi.dst v h1).symm, by rw [← Act.put_comm a v u h2]; exact hK⟩

theorem wpN_first {m : List Nat} {t1 i : Nat} {oi : Oper} {v : Value} (hi : ops[i]? = some oi) (hsel : Region.noSelect ops = true)
    (hQ : ∀ c a w, Q (.panic c) (a.put oi.dst v) w → Q (.panic c) a w) (hn : rgNearOK ops m t1 = true) (h2 : rgTag m i ≠ 2) :
    ∀ (f : Nat) (listed : Array Bool) (a : Act), RgInv ops m listed →
      (∀ j oj, ops[j]? = some oj → j ≠ i → listed.getD j true = false → (∀ e ∈ oj.after, Region.binds .any e = true → e.on ≠ i) → oi.apart ops oj = true) →
      i ∈ Region.ready .any ops listed → YieldsIn P ops C oi v a → (rgTag m i ≠ 0 → Yields P ops oi v a) →
      wpN P ops C m t1 Q f (listed.setIfInBounds i true) (a.put oi.dst v) → wpN P ops C m t1 Q (f + 1) listed a := by
  have hs := Region.noSelect_spec hsel
  intro f
  induction f with
  | zero => intro _ _ _ _ _ _ _ H; exact H.elim
  | succ f ih =>
    intro listed a inv hfree hr hy hfl H
    have hun := (mem_ready.1 hr).1
    refine ⟨fun h => (by rw [h] at hr; cases hr), fun j hj => ?_⟩
    by_cases hji : j = i
    · subst hji; exact .inl ⟨h2, hy.qOp hi H⟩
    · obtain ⟨hjun, oj, hoj, hall⟩ := mem_ready.1 hj
      have hnot : ∀ e ∈ oj.after, Region.binds .any e = true → e.on ≠ i := fun e he hb heq => by
        have h1 := hall e he hb
        rw [heq, getD_both hun] at h1
        cases h1
      have hap := hfree j oj hoj hji hjun hnot
      obtain ⟨p1, p2, p3⟩ := Oper.apart_spec hap
      have hfree' : ∀ k ok, ops[k]? = some ok → k ≠ i → (listed.setIfInBounds j true).getD k true = false →
          (∀ e ∈ ok.after, Region.binds .any e = true → e.on ≠ i) → oi.apart ops ok = true := fun k ok hk hki hku hno => by
        refine hfree k ok hk hki ?_ hno
        by_cases hjk : j = k
        · subst hjk; exact hjun
        · rw [getD_set_ne true hjk] at hku; exact hku
      rcases H.2 j (ready_mono hj hji) with ⟨ht, hq⟩ | ⟨ht, hw⟩
      · refine .inl ⟨ht, ?_⟩
        obtain ⟨u, hu, hK⟩ := qOp_swap hoj hap (fun cs b => hs j oj cs b hoj) hq
        refine hu.qOp hoj (ih (listed.setIfInBounds j true) _ (inv.set hj ht) hfree' (ready_mono hr (Ne.symm hji)) ?_ ?_ ?_)
        · exact hy.of_same (execOp_put oi (fun cs b => hs i oi cs b hi) a oj.dst u p3) (wanted_put oi a oj.dst u p3)
        · exact fun h0 => (hfl h0).of_same (execOp_put oi (fun cs b => hs i oi cs b hi) a oj.dst u p3) (wanted_put oi a oj.dst u p3)
        · rw [Array.setIfInBounds_comm _ _ hji]; exact hK
      · subst ht
        by_cases h0 : rgTag m i = 0
        · exact absurd hj (rg_near_waits hn inv _ i rfl (Array.getElem?_eq_some_iff.1 hi).1 h0 hun)
        · refine .inr ⟨rfl, fun w hC => ?_⟩
          refine wpOp_mono (fun a' w' h3 => ?_) (wpOp_put hoj hap (fun cs b => hs i oi cs b hi) (fun cs b => hs j oj cs b hoj) hQ (hfl h0) (hw w hC))
          refine wpAny_first hi (fun j o cs b ho => hs j o cs b ho) hQ f (listed.setIfInBounds j true) a' w' hfree' (ready_mono hr (Ne.symm hji)) h3.1 ?_
          rw [Array.setIfInBounds_comm _ _ hji]
          exact h3.2

/-- The heads in the text's order; behind them K. -/
def wpH (P : Program) (ops : Array Oper) (C : World → Prop) (K : Act → Prop) : List Oper → List Nat → Act → Prop
  | o :: l, g :: gs, a =>
    if g = 2 then wpH P ops C K l gs a
    else if Region.wanted o (yielded ops a.tmps) then
      if g = 0 then o.quiet P a C (wpH P ops C K l gs)
      else ∃ v, (∀ w, (execOp a.eval o).run P w = .ok (.value v) w) ∧ wpH P ops C K l gs (a.put o.dst v)
    else wpH P ops C K l gs (a.put o.dst undef)
  | _, _, a => K a

section
variable {K : Act → Prop} {o : Oper} {l : List Oper} {gs : List Nat} {a : Act}
theorem wpH_nil (h : K a) : wpH P ops C K [] [] a := h
theorem wpH_tail (h : wpH P ops C K l gs a) : wpH P ops C K (o :: l) (2 :: gs) a := h
theorem wpH_near (h : ∀ K' : Act → Prop, (∀ a, wpH P ops C K l gs a → K' a) → if Region.wanted o (yielded ops a.tmps) then o.quiet P a C K' else K' (a.put o.dst undef)) : wpH P ops C K (o :: l) (0 :: gs) a :=
  h _ (fun _ h => h)
theorem wpH_float (h : ∀ K' : Act → Prop, (∀ a, wpH P ops C K l gs a → K' a) → if Region.wanted o (yielded ops a.tmps) then (∃ v, (∀ w, (execOp a.eval o).run P w = .ok (.value v) w) ∧ K' (a.put o.dst v)) else K' (a.put o.dst undef)) : wpH P ops C K (o :: l) (1 :: gs) a :=
  h _ (fun _ h => h)
end

theorem any_of_tails : ∀ (T : List Nat) (os : List Oper) (listed : Array Bool) (a : Act) (w : World), T.map (fun t => ops[t]?) = os.map some →
    rgTailOK ops T listed = true → wpList P ops Q os a w → wpAny P .any ops Q T.length listed a w
  | [], [], _, _, _, _, hB, h => ⟨by simpa [rgTailOK] using hB, h⟩
  | [], _ :: _, _, _, _, hm, _, _ => by simp at hm
  | _ :: _, [], _, _, _, hm, _, _ => by simp at hm
  | t :: T, o :: os, listed, a, w, hm, hB, h => by
    simp only [List.map_cons, List.cons.injEq] at hm
    simp only [rgTailOK, Bool.and_eq_true, decide_eq_true_eq] at hB
    refine ⟨fun h1 => (by rw [hB.1] at h1; cases h1), fun i hi => ?_⟩
    rw [hB.1] at hi
    have hik : i = t := by simpa using hi
    subst hik
    have hw : wpOp P ops Q i (wpList P ops Q os) a w := by unfold wpOp; simp only [hm.1]; exact h
    exact wpOp_mono (fun a' w' h' => any_of_tails T os _ a' w' hm.2 hB.2 h') hw

theorem rgTailOps_map : ∀ (l : List Oper) (gs : List Nat) (k : Nat), l.length = gs.length → (∀ j, l[j]? = ops[k + j]?) →
    (rgTails k gs).map (fun t => ops[t]?) = (rgTailOps l gs).map some
  | [], [], _, _, _ => by simp [rgTails, rgTailOps]
  | [], _ :: _, _, h, _ => by simp at h
  | _ :: _, [], _, h, _ => by simp at h
  | o :: l, g :: gs, k, hl, h => by
    have h0 : ops[k]? = some o := by simpa using (h 0).symm
    have ih := rgTailOps_map l gs (k + 1) (by simpa using hl) (fun j => by have := h (j + 1); simpa [Nat.add_assoc, Nat.add_comm 1 j] using this)
    by_cases hg : g = 2
    · subst hg; simp [rgTails, rgTailOps, h0, ih]
    · simp [rgTails, rgTailOps, hg, ih]

theorem wpN_lex {m : List Nat} {t1 : Nat} {T : List Nat} (hsel : Region.noSelect ops = true) (hQ : ∀ c a w, ¬ Q (.panic c) a w) (hn : rgNearOK ops m t1 = true)
    (os : List Oper) (hos : (t1 :: T).map (fun t => ops[t]?) = os.map some) :
    ∀ (l : List Oper) (gs : List Nat) (k : Nat) (listed : Array Bool) (a : Act), l.length = gs.length → (∀ j, l[j]? = ops[k + j]?) → (∀ j, gs[j]? = m[k + j]?) → RgInv ops m listed →
    rgHeadOK ops (t1 :: T) k gs listed = true → wpH P ops C (fun a' => ∀ w, C w → wpList P ops Q os a' w) l gs a →
    wpN P ops C m t1 Q ((gs.filter (· ≠ 2)).length + (T.length + 1)) listed a
  | [], [], k, listed, a, _, _, _, inv, hB, h => by
    simp only [wpH] at h
    simp only [rgHeadOK, rgTailOK, Bool.and_eq_true, decide_eq_true_eq] at hB
    simp only [List.filter_nil, List.length_nil, Nat.zero_add]
    refine ⟨by rw [hB.1]; simp, fun i hi => .inr ?_⟩
    rw [hB.1] at hi
    have hik : i = t1 := by simpa using hi
    subst hik
    refine ⟨rfl, fun w hC => ?_⟩
    have h' := any_of_tails (i :: T) os listed a w hos (by simp only [rgTailOK, Bool.and_eq_true, decide_eq_true_eq]; exact hB) (h w hC)
    exact h'.2 i (by rw [hB.1]; simp)
  | [], _ :: _, _, _, _, hl, _, _, _, _, _ => by simp at hl
  | _ :: _, [], _, _, _, hl, _, _, _, _, _ => by simp at hl
  | o :: l, g :: gs, k, listed, a, hl, h, hm, inv, hB, H => by
    have h0 : ops[k]? = some o := by simpa using (h 0).symm
    have hg0 : m[k]? = some g := by simpa using (hm 0).symm
    have htag : rgTag m k = g := by simp [rgTag, hg0]
    have hl' : l.length = gs.length := by simpa using hl
    have h' : ∀ j, l[j]? = ops[k + 1 + j]? := fun j => by have := h (j + 1); simpa [Nat.add_assoc, Nat.add_comm 1 j] using this
    have hm' : ∀ j, gs[j]? = m[k + 1 + j]? := fun j => by have := hm (j + 1); simpa [Nat.add_assoc, Nat.add_comm 1 j] using this
    by_cases hg : g = 2
    · subst hg
      simp only [rgHeadOK, if_true] at hB
      simp only [wpH, if_true] at H
      simpa using wpN_lex hsel hQ hn os hos l gs (k + 1) listed a hl' h' hm' inv hB H
    · simp only [rgHeadOK, hg, if_false, Bool.and_eq_true] at hB
      obtain ⟨⟨hr, hf⟩, hB'⟩ := hB
      have hr' : k ∈ Region.ready .any ops listed := by simpa using hr
      have hstep : ∃ v, YieldsIn P ops C o v a ∧ (rgTag m k ≠ 0 → Yields P ops o v a) ∧ wpH P ops C (fun a' => ∀ w, C w → wpList P ops Q os a' w) l gs (a.put o.dst v) := by
        simp only [wpH, hg, if_false] at H
        by_cases hw : Region.wanted o (yielded ops a.tmps) = true
        · simp only [hw, if_true] at H
          by_cases hgz : g = 0
          · simp only [hgz, if_true] at H
            obtain ⟨v, h1, h2⟩ := H
            exact ⟨v, .inl ⟨hw, h1⟩, fun hc => absurd (htag.trans hgz) hc, h2⟩
          · simp only [hgz, if_false] at H
            obtain ⟨v, h1, h2⟩ := H
            exact ⟨v, .inl ⟨hw, fun w _ => by unfold Oper.quietAt; rw [h1 w]; exact ⟨rfl, rfl⟩⟩, fun _ => .inl ⟨hw, h1⟩, h2⟩
        · have hw' : Region.wanted o (yielded ops a.tmps) = false := by simpa using hw
          simp only [hw', Bool.false_eq_true, if_false] at H
          exact ⟨undef, .inr ⟨hw', rfl⟩, fun _ => .inr ⟨hw', rfl⟩, H⟩
      obtain ⟨v, hy, hfl, hK⟩ := hstep
      have ih := wpN_lex hsel hQ hn os hos l gs (k + 1) (listed.setIfInBounds k true) (a.put o.dst v) hl' h' hm' (inv.set hr' (by rw [htag]; exact hg)) hB' hK
      have hlen : ((g :: gs).filter (· ≠ 2)).length + (T.length + 1) = ((gs.filter (· ≠ 2)).length + (T.length + 1)) + 1 := by
        simp [hg]; omega
      rw [hlen]
      exact wpN_first h0 hsel (fun c a w hp => absurd hp (hQ c _ w)) hn (by rw [htag]; exact hg) _ listed a inv (Region.free_spec h0 hf) hr' hy hfl ih

theorem rg_count : ∀ (gs : List Nat) (k : Nat), (gs.filter (· ≠ 2)).length + (rgTails k gs).length = gs.length
  | [], _ => rfl
  | g :: gs, k => by
    have ih := rg_count gs (k + 1)
    by_cases hg : g = 2
    · simp [rgTails, hg] at *; omega
    · simp [rgTails, hg] at *; omega

/-- THE REGION: the quiet ones, walked in the text's order in all worlds that drew some more; then the tail. -/
theorem wp_region_rg {id : Nat} {a : Act} {w : World} {l : List Oper} (m : List Nat) (hm : P.follows .mixedOrders = true) (hB : rgOK l.toArray m = true)
    (h : wpH P l.toArray (fun w' => ∃ n, w' = w.drewN n) (fun a' => ∀ w', (∃ n, w' = w.drewN n) → wpList P l.toArray (NoPanic Q) (rgTailOps l m) a' w') l m a) :
    (Code.region id l.toArray true).wp P Q a w := by
  refine wp_region_noPanic (wp_region_any hm ?_)
  unfold rgOK at hB
  cases hT : rgTails 0 m with
  | nil => rw [hT] at hB; cases hB
  | cons t1 T =>
    rw [hT] at hB
    simp only [Bool.and_eq_true, decide_eq_true_eq] at hB
    obtain ⟨⟨⟨⟨hsel, hlen⟩, hn⟩, hr⟩, hH⟩ := hB
    have hos := rgTailOps_map (ops := l.toArray) l m 0 (by simpa using hlen.symm) (fun j => by simp)
    rw [hT] at hos
    have inv0 : RgInv l.toArray m (Array.replicate l.toArray.size false) :=
      ⟨by simp, fun j oj _ hl => (by rw [getD_replicate_false] at hl; cases hl), fun t ht _ => getD_in (by simpa using ht) (getD_replicate_false _ _)⟩
    have H := wpN_lex (P := P) (Q := NoPanic Q) (C := fun w' => ∃ n, w' = w.drewN n) hsel (fun c a w hp => hp) hn (rgTailOps l m) hos l m 0 _ a (by simpa using hlen.symm) (fun j => by simp) (fun j => by simp) inv0 hH h
    have hc := rg_count m 0
    rw [hT] at hc
    have hsz : (m.filter (· ≠ 2)).length + (T.length + 1) = l.toArray.size := by
      simp only [List.length_cons] at hc; rw [hc]; exact hlen
    rw [hsz] at H
    exact wpN_sound _ _ _ H _ ⟨1, rfl⟩

end
end Go.Proofs.Ytcgnficlcgmffaa
