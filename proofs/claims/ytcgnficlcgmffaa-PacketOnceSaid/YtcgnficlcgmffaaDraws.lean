/-
  A region that draws its order, where some loads may come up beside operations that write or make memory: a class S of worlds in which they yield what they yield.
-/
import Derived.OrdersHeld
import Derived.Test.YtcgnficlcgmffaaDraw
namespace Go.Proofs.Ytcgnficlcgmffaa
section
variable {P : Program} {ops : Array Oper} {C S : World → Prop} {Q : Exit → Act → World → Prop}

/-- Tags: 0 near, 1 float, 2 tail behind which S is to hold, 3 tail that waits for all floats. -/
def rsNeed (ops : Array Oper) (m : List Nat) (t : Nat) : Bool := (List.range ops.size).any fun f => decide (rgTag m f = 1) && decide (f ≠ t) && !Region.waitsFor .any ops t f
def rsTails : Nat → List Nat → List Nat
  | _, [] => []
  | k, g :: gs => if 2 ≤ g then k :: rsTails (k + 1) gs else rsTails (k + 1) gs
def rsTailOps (g0 : Nat) : List Oper → List Nat → List Oper
  | o :: l, g :: gs => if g = g0 then o :: rsTailOps g0 l gs else rsTailOps g0 l gs
  | _, _ => []
def rsHeadOK (ops : Array Oper) (T : List Nat) : Nat → List Nat → Array Bool → Bool
  | _, [], listed => rgTailOK ops T listed
  | k, g :: gs, listed =>
    if 2 ≤ g then rsHeadOK ops T (k + 1) gs listed
    else (Region.ready .any ops listed).contains k && Region.free .any ops listed k && rsHeadOK ops T (k + 1) gs (listed.setIfInBounds k true)
def rsRestOK (ops : Array Oper) (m : List Nat) (t1 : Nat) : Bool :=
  (List.range ops.size).all fun i => decide (rgTag m i < 2) || decide (i = t1) || (List.range ops.size).any fun j => decide (2 ≤ rgTag m j) && Region.waitsFor .any ops i j
def rsEndOK (ops : Array Oper) (m : List Nat) : Bool := (List.range ops.size).all fun i => decide (rgTag m i ≠ 3) || !rsNeed ops m i
/-- All that are tagged 2 stand ahead of all that are tagged 3. -/
def rsSorted : List Nat → Bool
  | [] => true
  | g :: gs => (decide (g ≠ 3) || gs.all (fun h => decide (h ≠ 2))) && rsSorted gs
def rsOK (ops : Array Oper) (m : List Nat) : Bool :=
  match rsTails 0 m with
  | [] => false
  | t1 :: T => Region.noSelect ops && decide (m.length = ops.size) && rgNearOK ops m t1 && rsRestOK ops m t1 && rsEndOK ops m && rsSorted m && rsHeadOK ops (t1 :: T) 0 m (Array.replicate ops.size false)

structure RsInv (ops : Array Oper) (m : List Nat) (listed : Array Bool) : Prop where
  size : listed.size = ops.size
  closed : ∀ j oj, ops[j]? = some oj → listed.getD j false = true → ∀ e ∈ oj.after, Region.binds .any e = true → listed.getD e.on false = true
  tail : ∀ t, t < ops.size → 2 ≤ rgTag m t → listed.getD t true = false

theorem RsInv.set {m : List Nat} {i : Nat} {listed : Array Bool} (inv : RsInv ops m listed) (hi : i ∈ Region.ready .any ops listed) (hin : rgTag m i < 2) : RsInv ops m (listed.setIfInBounds i true) := by
  obtain ⟨_, oi, hoi, hall⟩ := mem_ready.1 hi
  refine ⟨by simp [inv.size], fun j oj hj hl e he hb => ?_, fun t ht ht' => ?_⟩
  · by_cases hij : i = j
    · subst hij
      have : oj = oi := Option.some.inj (hj.symm.trans hoi)
      subst this
      exact getD_set_true (hall e he hb)
    · rw [getD_set_ne false hij] at hl
      exact getD_set_true (inv.closed j oj hj hl e he hb)
  · have : i ≠ t := fun h => by rw [h] at hin; omega
    rw [getD_set_ne true this]
    exact inv.tail t ht ht'

theorem rs_near_waits {m : List Nat} {t1 : Nat} {listed : Array Bool} (hn : rgNearOK ops m t1 = true) (inv : RsInv ops m listed) :
    ∀ (d i : Nat), ops.size - i = d → i < ops.size → rgTag m i = 0 → listed.getD i true = false → t1 ∉ Region.ready .any ops listed := by
  intro d
  induction d using Nat.strongRecOn with
  | _ d ih =>
    intro i hd hi h0 hun hr
    have h := List.all_eq_true.1 hn i (List.mem_range.2 hi)
    simp only [h0, ne_eq, not_true_eq_false, decide_false, Bool.false_or] at h
    obtain ⟨j, hj, hj2⟩ := List.any_eq_true.1 h
    simp only [Bool.and_eq_true, Bool.or_eq_true, decide_eq_true_eq] at hj2
    obtain ⟨⟨hij, hw⟩, hj3⟩ := hj2
    have hjlt := List.mem_range.1 hj
    obtain ⟨oj, hoj, e, he, hb, hon⟩ := Region.waitsFor_spec hw
    rcases hj3 with hj3 | hj3
    · subst hj3
      obtain ⟨_, ot, hot, hall⟩ := mem_ready.1 hr
      have : oj = ot := Option.some.inj (hoj.symm.trans hot)
      subst this
      have h2 := hall e he hb
      rw [hon, getD_both hun] at h2
      cases h2
    · cases hl : listed.getD j false with
      | true =>
        have h2 := inv.closed j oj hoj hl e he hb
        rw [hon, getD_both hun] at h2
        cases h2
      | false => exact ih (ops.size - j) (by omega) j rfl hjlt hj3 (getD_in (by rw [inv.size]; exact hjlt) hl) hr

/-- Whatever order is picked from here on; behind each operation that some float need not wait for, S. -/
def wpAnyF (P : Program) (ops : Array Oper) (Q : Exit → Act → World → Prop) (S : World → Prop) (m : List Nat) : Nat → Array Bool → Act → World → Prop
  | 0, listed, a, w => Region.ready .any ops listed = [] ∧ Q .normal a w
  | f + 1, listed, a, w => (Region.ready .any ops listed = [] → Q .normal a w) ∧
    ∀ i ∈ Region.ready .any ops listed, wpOp P ops Q i (fun a' w' => (rsNeed ops m i = true → S w') ∧ wpAnyF P ops Q S m f (listed.setIfInBounds i true) a' w') a w
theorem wpAnyF_sound {m : List Nat} : ∀ (f : Nat) (listed : Array Bool) (a : Act) (w : World), wpAnyF P ops Q S m f listed a w → wpAny P .any ops Q f listed a w
  | 0, _, _, _, h => h
  | f + 1, _, _, _, h => ⟨h.1, fun i hi => wpOp_mono (fun a' w' h' => wpAnyF_sound f _ a' w' h'.2) (h.2 i hi)⟩

theorem rs_need {m : List Nat} {i j : Nat} {oi : Oper} (hi : ops[i]? = some oi) (h1 : rgTag m i = 1) (hji : j ≠ i) {listed : Array Bool} (hun : listed.getD i true = false) (hj : j ∈ Region.ready .any ops listed) : rsNeed ops m j = true := by
  unfold rsNeed
  rw [List.any_eq_true]
  refine ⟨i, List.mem_range.2 (Array.getElem?_eq_some_iff.1 hi).1, ?_⟩
  simp only [h1, decide_true, Bool.true_and, Bool.and_eq_true, decide_eq_true_eq]
  refine ⟨fun h => hji h.symm, ?_⟩
  cases hw : Region.waitsFor .any ops j i with
  | false => rfl
  | true =>
    obtain ⟨oj, hoj, e, he, hb, hon⟩ := Region.waitsFor_spec hw
    obtain ⟨_, ot, hot, hall⟩ := mem_ready.1 hj
    have : oj = ot := Option.some.inj (hoj.symm.trans hot)
    subst this
    have h2 := hall e he hb
    rw [hon, getD_both hun] at h2
    cases h2

theorem wpAnyF_first {m : List Nat} {i : Nat} {oi : Oper} {v : Value} (hi : ops[i]? = some oi) (hsel : Region.noSelect ops = true) (hQ : ∀ c a w, ¬ Q (.panic c) a w) (h1 : rgTag m i = 1) :
    ∀ (f : Nat) (listed : Array Bool) (a : Act) (w : World),
      (∀ j oj, ops[j]? = some oj → j ≠ i → listed.getD j true = false → (∀ e ∈ oj.after, Region.binds .any e = true → e.on ≠ i) → oi.apart ops oj = true) →
      i ∈ Region.ready .any ops listed → YieldsIf P ops S oi v a → S w →
      wpAnyF P ops Q S m f (listed.setIfInBounds i true) (a.put oi.dst v) w → wpAnyF P ops Q S m (f + 1) listed a w := by
  have hs := Region.noSelect_spec hsel
  intro f
  induction f with
  | zero =>
    intro listed a w _ hr hy hS H
    refine ⟨fun h => (by rw [h] at hr; cases hr), fun j hj => ?_⟩
    by_cases hji : j = i
    · subst hji; exact hy.wpOp hi hS ⟨fun _ => hS, H⟩
    · have := ready_mono hj hji
      rw [H.1] at this
      cases this
  | succ f ih =>
    intro listed a w hfree hr hy hS H
    have hun := (mem_ready.1 hr).1
    refine ⟨fun h => (by rw [h] at hr; cases hr), fun j hj => ?_⟩
    by_cases hji : j = i
    · subst hji; exact hy.wpOp hi hS ⟨fun _ => hS, H⟩
    · have h2 := H.2 j (ready_mono hj hji)
      obtain ⟨hjun, oj, hoj, hall⟩ := mem_ready.1 hj
      have hnot : ∀ e ∈ oj.after, Region.binds .any e = true → e.on ≠ i := fun e he hb heq => by
        have h1 := hall e he hb
        rw [heq, getD_both hun] at h1
        cases h1
      have hfree' : ∀ k ok, ops[k]? = some ok → k ≠ i → (listed.setIfInBounds j true).getD k true = false →
          (∀ e ∈ ok.after, Region.binds .any e = true → e.on ≠ i) → oi.apart ops ok = true := fun k ok hk hki hku hno => by
        refine hfree k ok hk hki ?_ hno
        by_cases hjk : j = k
        · subst hjk; exact hjun
        · rw [getD_set_ne true hjk] at hku; exact hku
      have h3 := wpOp_putIf hoj (hfree j oj hoj hji hjun hnot) (fun cs b => hs i oi cs b hi) (fun cs b => hs j oj cs b hoj) (fun c a w hp => absurd hp (hQ c _ w)) hy h2
      refine wpOp_mono (fun a' w' h4 => ⟨h4.2.1, ih (listed.setIfInBounds j true) a' w' hfree' (ready_mono hr (Ne.symm hji)) h4.1 (h4.2.1 (rs_need hi h1 hji hun hj)) ?_⟩) h3
      rw [Array.setIfInBounds_comm _ _ hji]
      exact h4.2.2

def wpNF (P : Program) (ops : Array Oper) (C S : World → Prop) (m : List Nat) (t1 : Nat) (Q : Exit → Act → World → Prop) : Nat → Array Bool → Act → Prop
  | 0, _, _ => False
  | f + 1, listed, a => Region.ready .any ops listed ≠ [] ∧ ∀ i ∈ Region.ready .any ops listed,
      (rgTag m i < 2 ∧ qOp P ops C i (wpNF P ops C S m t1 Q f (listed.setIfInBounds i true)) a) ∨
      (i = t1 ∧ ∀ w, C w → wpOp P ops Q i (fun a' w' => (rsNeed ops m i = true → S w') ∧ wpAnyF P ops Q S m f (listed.setIfInBounds i true) a' w') a w)

theorem wpNF_sound {m : List Nat} {t1 : Nat} : ∀ (f : Nat) (listed : Array Bool) (a : Act), wpNF P ops C S m t1 Q f listed a → ∀ w, C w → wpAny P .any ops Q f listed a w
  | 0, _, _, h, _, _ => h.elim
  | f + 1, listed, a, h, w, hw => by
    refine ⟨fun h0 => absurd h0 h.1, fun i hi => ?_⟩
    rcases h.2 i hi with ⟨_, hq⟩ | ⟨_, ht⟩
    · exact wpOp_of_qOp hw (fun a' w' hw' hK => wpNF_sound f _ a' hK w' hw') hq
    · exact wpOp_mono (fun a' w' h' => wpAnyF_sound f _ a' w' h'.2) (ht w hw)

theorem wpNF_first {m : List Nat} {t1 i : Nat} {oi : Oper} {v : Value} (hi : ops[i]? = some oi) (hsel : Region.noSelect ops = true) (hCS : ∀ w, C w → S w)
    (hQ : ∀ c a w, ¬ Q (.panic c) a w) (hn : rgNearOK ops m t1 = true) (h2 : rgTag m i < 2) :
    ∀ (f : Nat) (listed : Array Bool) (a : Act), RsInv ops m listed →
      (∀ j oj, ops[j]? = some oj → j ≠ i → listed.getD j true = false → (∀ e ∈ oj.after, Region.binds .any e = true → e.on ≠ i) → oi.apart ops oj = true) →
      i ∈ Region.ready .any ops listed → YieldsIn P ops C oi v a → (rgTag m i ≠ 0 → YieldsIf P ops S oi v a) →
      wpNF P ops C S m t1 Q f (listed.setIfInBounds i true) (a.put oi.dst v) → wpNF P ops C S m t1 Q (f + 1) listed a := by
  have hs := Region.noSelect_spec hsel
  intro f
  induction f with
  | zero => intro _ _ _ _ _ _ _ H; exact H.elim
  | succ f ih =>
    intro listed a inv hfree hr hy hfl H
    have hun := (mem_ready.1 hr).1
    refine ⟨fun h => (by rw [h] at hr; cases hr), fun j hj => ?_⟩
    by_cases hji : j = i
    · subst hji; exact .inl ⟨h2, hy.qOp hi H⟩
    · obtain ⟨hjun, oj, hoj, hall⟩ := mem_ready.1 hj
      have hnot : ∀ e ∈ oj.after, Region.binds .any e = true → e.on ≠ i := fun e he hb heq => by
        have h1 := hall e he hb
        rw [heq, getD_both hun] at h1
        cases h1
      have hap := hfree j oj hoj hji hjun hnot
      obtain ⟨p1, p2, p3⟩ := Oper.apart_spec hap
      have hfree' : ∀ k ok, ops[k]? = some ok → k ≠ i → (listed.setIfInBounds j true).getD k true = false →
          (∀ e ∈ ok.after, Region.binds .any e = true → e.on ≠ i) → oi.apart ops ok = true := fun k ok hk hki hku hno => by
        refine hfree k ok hk hki ?_ hno
        by_cases hjk : j = k
        · subst hjk; exact hjun
        · rw [getD_set_ne true hjk] at hku; exact hku
      rcases H.2 j (ready_mono hj hji) with ⟨ht, hq⟩ | ⟨ht, hw⟩
      · refine .inl ⟨ht, ?_⟩
        obtain ⟨u, hu, hK⟩ := qOp_swap hoj hap (fun cs b => hs j oj cs b hoj) hq
        refine hu.qOp hoj (ih (listed.setIfInBounds j true) _ (inv.set hj ht) hfree' (ready_mono hr (Ne.symm hji)) ?_ ?_ ?_)
        · exact hy.of_same (execOp_put oi (fun cs b => hs i oi cs b hi) a oj.dst u p3) (wanted_put oi a oj.dst u p3)
        · exact fun h0 => (hfl h0).of_same (execOp_put oi (fun cs b => hs i oi cs b hi) a oj.dst u p3) (wanted_put oi a oj.dst u p3)
        · rw [Array.setIfInBounds_comm _ _ hji]; exact hK
      · subst ht
        by_cases h0 : rgTag m i = 0
        · exact absurd hj (rs_near_waits hn inv _ i rfl (Array.getElem?_eq_some_iff.1 hi).1 h0 hun)
        · have h1 : rgTag m i = 1 := by omega
          refine .inr ⟨rfl, fun w hC => ?_⟩
          refine wpOp_mono (fun a' w' h3 => ⟨h3.2.1, ?_⟩) (wpOp_putIf hoj hap (fun cs b => hs i oi cs b hi) (fun cs b => hs j oj cs b hoj) (fun c a w hp => absurd hp (hQ c _ w)) (hfl h0) (hw w hC))
          refine wpAnyF_first hi hsel hQ h1 f (listed.setIfInBounds j true) a' w' hfree' (ready_mono hr (Ne.symm hji)) h3.1 (h3.2.1 (rs_need hi h1 hji hun hj)) ?_
          rw [Array.setIfInBounds_comm _ _ hji]
          exact h3.2.2

/-- The heads in the text's order; behind them K. -/
def wpHS (P : Program) (ops : Array Oper) (C S : World → Prop) (K : Act → Prop) : List Oper → List Nat → Act → Prop
  | o :: l, g :: gs, a =>
    if 2 ≤ g then wpHS P ops C S K l gs a
    else if Region.wanted o (yielded ops a.tmps) then
      if g = 0 then o.quiet P a C (wpHS P ops C S K l gs)
      else ∃ v, (∀ w, S w → (execOp a.eval o).run P w = .ok (.value v) w) ∧ wpHS P ops C S K l gs (a.put o.dst v)
    else wpHS P ops C S K l gs (a.put o.dst undef)
  | _, _, a => K a
section
variable {K : Act → Prop} {o : Oper} {l : List Oper} {gs : List Nat} {a : Act}
theorem wpHS_nil (h : K a) : wpHS P ops C S K [] [] a := h
theorem wpHS_tail2 (h : wpHS P ops C S K l gs a) : wpHS P ops C S K (o :: l) (2 :: gs) a := h
theorem wpHS_tail3 (h : wpHS P ops C S K l gs a) : wpHS P ops C S K (o :: l) (3 :: gs) a := h
theorem wpHS_near (h : ∀ K' : Act → Prop, (∀ a, wpHS P ops C S K l gs a → K' a) → if Region.wanted o (yielded ops a.tmps) then o.quiet P a C K' else K' (a.put o.dst undef)) : wpHS P ops C S K (o :: l) (0 :: gs) a :=
  h _ (fun _ h => h)
theorem wpHS_float (h : ∀ K' : Act → Prop, (∀ a, wpHS P ops C S K l gs a → K' a) → if Region.wanted o (yielded ops a.tmps) then (∃ v, (∀ w, S w → (execOp a.eval o).run P w = .ok (.value v) w) ∧ K' (a.put o.dst v)) else K' (a.put o.dst undef)) : wpHS P ops C S K (o :: l) (1 :: gs) a :=
  h _ (fun _ h => h)
end
/-- The tail's first part: behind each of its operations S. -/
def wpListS (P : Program) (ops : Array Oper) (S : World → Prop) (Q : Exit → Act → World → Prop) (K : Act → World → Prop) : List Oper → Act → World → Prop
  | [], a, w => K a w
  | o :: rest, a, w => if Region.wanted o (yielded ops a.tmps) then o.wp P a w (fun a' w' => S w' ∧ wpListS P ops S Q K rest a' w') Q else S w ∧ wpListS P ops S Q K rest (a.put o.dst undef) w
theorem wpListS_nil {K : Act → World → Prop} {a : Act} {w : World} (h : K a w) : wpListS P ops S Q K [] a w := h
theorem wpListS_step {K : Act → World → Prop} {o : Oper} {rest : List Oper} {a : Act} {w : World} (hg : o.guard = none)
    (h : ∀ K' : Act → World → Prop, (∀ a w, S w → wpListS P ops S Q K rest a w → K' a w) → o.wp P a w K' Q) : wpListS P ops S Q K (o :: rest) a w := by
  unfold wpListS
  rw [if_pos (by simp [Region.wanted, hg])]
  exact h _ fun a w h1 h2 => ⟨h1, h2⟩

theorem anyF_of_tails {m : List Nat} : ∀ (T : List Nat) (os : List Oper) (listed : Array Bool) (a : Act) (w : World), T.map (fun t => ops[t]?) = os.map some → (∀ t ∈ T, rsNeed ops m t = false) →
    rgTailOK ops T listed = true → wpList P ops Q os a w → wpAnyF P ops Q S m T.length listed a w
  | [], [], _, _, _, _, _, hB, h => ⟨by simpa [rgTailOK] using hB, h⟩
  | [], _ :: _, _, _, _, hm, _, _, _ => by simp at hm
  | _ :: _, [], _, _, _, hm, _, _, _ => by simp at hm
  | t :: T, o :: os, listed, a, w, hm, hN, hB, h => by
    simp only [List.map_cons, List.cons.injEq] at hm
    simp only [rgTailOK, Bool.and_eq_true, decide_eq_true_eq] at hB
    refine ⟨fun h1 => (by rw [hB.1] at h1; cases h1), fun i hi => ?_⟩
    rw [hB.1] at hi
    have hik : i = t := by simpa using hi
    subst hik
    have hw : wpOp P ops Q i (wpList P ops Q os) a w := by unfold wpOp; simp only [hm.1]; exact h
    exact wpOp_mono (fun a' w' h' => ⟨fun hn => (by rw [hN i (by simp)] at hn; cases hn), anyF_of_tails T os _ a' w' hm.2 (fun t ht => hN t (by simp [ht])) hB.2 h'⟩) hw
theorem anyF_of_two {m : List Nat} (T2 : List Nat) (os2 : List Oper) (h2 : T2.map (fun t => ops[t]?) = os2.map some) (hN : ∀ t ∈ T2, rsNeed ops m t = false) :
    ∀ (T : List Nat) (os : List Oper) (listed : Array Bool) (a : Act) (w : World), T.map (fun t => ops[t]?) = os.map some →
    rgTailOK ops (T ++ T2) listed = true → wpListS P ops S Q (fun a w => wpList P ops Q os2 a w) os a w → wpAnyF P ops Q S m (T ++ T2).length listed a w
  | [], [], listed, a, w, _, hB, h => anyF_of_tails T2 os2 listed a w h2 hN hB h
  | [], _ :: _, _, _, _, hm, _, _ => by simp at hm
  | _ :: _, [], _, _, _, hm, _, _ => by simp at hm
  | t :: T, o :: os, listed, a, w, hm, hB, h => by
    simp only [List.map_cons, List.cons.injEq] at hm
    simp only [List.cons_append, rgTailOK, Bool.and_eq_true, decide_eq_true_eq] at hB
    refine ⟨fun h1 => (by rw [hB.1] at h1; cases h1), fun i hi => ?_⟩
    rw [hB.1] at hi
    have hik : i = t := by simpa using hi
    subst hik
    have hw : wpOp P ops Q i (fun a' w' => S w' ∧ wpListS P ops S Q (fun a w => wpList P ops Q os2 a w) os a' w') a w := by
      unfold wpOp
      simp only [hm.1]
      unfold wpListS at h
      split
      · rename_i hwn; rw [if_pos hwn] at h; exact .inl h
      · rename_i hwn; rw [if_neg hwn] at h; exact h
    exact wpOp_mono (fun a' w' h' => ⟨fun _ => h'.1, anyF_of_two T2 os2 h2 hN T os _ a' w' hm.2 hB.2 h'.2⟩) hw

theorem wpNF_lex {m : List Nat} {t1 : Nat} {T : List Nat} (hsel : Region.noSelect ops = true) (hCS : ∀ w, C w → S w) (hQ : ∀ c a w, ¬ Q (.panic c) a w) (hn : rgNearOK ops m t1 = true)
    (K : Act → World → Prop) (hK : ∀ listed a w, rgTailOK ops (t1 :: T) listed = true → K a w → wpAnyF P ops Q S m (t1 :: T).length listed a w) :
    ∀ (l : List Oper) (gs : List Nat) (k : Nat) (listed : Array Bool) (a : Act), l.length = gs.length → (∀ j, l[j]? = ops[k + j]?) → (∀ j, gs[j]? = m[k + j]?) → RsInv ops m listed →
    rsHeadOK ops (t1 :: T) k gs listed = true → wpHS P ops C S (fun a' => ∀ w, C w → K a' w) l gs a →
    wpNF P ops C S m t1 Q ((gs.filter (· < 2)).length + (T.length + 1)) listed a
  | [], [], k, listed, a, _, _, _, inv, hB, h => by
    simp only [wpHS] at h
    have hB' := hB
    simp only [rsHeadOK, rgTailOK, Bool.and_eq_true, decide_eq_true_eq] at hB
    simp only [List.filter_nil, List.length_nil, Nat.zero_add]
    refine ⟨by rw [hB.1]; simp, fun i hi => .inr ?_⟩
    rw [hB.1] at hi
    have hik : i = t1 := by simpa using hi
    subst hik
    refine ⟨rfl, fun w hC => ?_⟩
    have h' := hK listed a w (by simpa only [rsHeadOK] using hB') (h w hC)
    exact h'.2 i (by rw [hB.1]; simp)
  | [], _ :: _, _, _, _, hl, _, _, _, _, _ => by simp at hl
  | _ :: _, [], _, _, _, hl, _, _, _, _, _ => by simp at hl
  | o :: l, g :: gs, k, listed, a, hl, h, hm, inv, hB, H => by
    have h0 : ops[k]? = some o := by simpa using (h 0).symm
    have hg0 : m[k]? = some g := by simpa using (hm 0).symm
    have htag : rgTag m k = g := by simp [rgTag, hg0]
    have hl' : l.length = gs.length := by simpa using hl
    have h' : ∀ j, l[j]? = ops[k + 1 + j]? := fun j => by have := h (j + 1); simpa [Nat.add_assoc, Nat.add_comm 1 j] using this
    have hm' : ∀ j, gs[j]? = m[k + 1 + j]? := fun j => by have := hm (j + 1); simpa [Nat.add_assoc, Nat.add_comm 1 j] using this
    by_cases hg : 2 ≤ g
    · simp only [rsHeadOK, hg, if_true] at hB
      simp only [wpHS, hg, if_true] at H
      have hng : ¬ g < 2 := by omega
      simpa [hng] using wpNF_lex hsel hCS hQ hn K hK l gs (k + 1) listed a hl' h' hm' inv hB H
    · simp only [rsHeadOK, hg, if_false, Bool.and_eq_true] at hB
      obtain ⟨⟨hr, hf⟩, hB'⟩ := hB
      have hr' : k ∈ Region.ready .any ops listed := by simpa using hr
      have hlt : g < 2 := by omega
      have hstep : ∃ v, YieldsIn P ops C o v a ∧ (rgTag m k ≠ 0 → YieldsIf P ops S o v a) ∧ wpHS P ops C S (fun a' => ∀ w, C w → K a' w) l gs (a.put o.dst v) := by
        simp only [wpHS, hg, if_false] at H
        by_cases hw : Region.wanted o (yielded ops a.tmps) = true
        · simp only [hw, if_true] at H
          by_cases hgz : g = 0
          · simp only [hgz, if_true] at H
            obtain ⟨v, h1, h2⟩ := H
            exact ⟨v, .inl ⟨hw, h1⟩, fun hc => absurd (htag.trans hgz) hc, h2⟩
          · simp only [hgz, if_false] at H
            obtain ⟨v, h1, h2⟩ := H
            exact ⟨v, .inl ⟨hw, fun w hC => by unfold Oper.quietAt; rw [h1 w (hCS w hC)]; exact ⟨rfl, rfl⟩⟩, fun _ => .inl ⟨hw, h1⟩, h2⟩
        · have hw' : Region.wanted o (yielded ops a.tmps) = false := by simpa using hw
          simp only [hw', Bool.false_eq_true, if_false] at H
          exact ⟨undef, .inr ⟨hw', rfl⟩, fun _ => .inr ⟨hw', rfl⟩, H⟩
      obtain ⟨v, hy, hfl, hKK⟩ := hstep
      have ih := wpNF_lex hsel hCS hQ hn K hK l gs (k + 1) (listed.setIfInBounds k true) (a.put o.dst v) hl' h' hm' (inv.set hr' (by rw [htag]; exact hlt)) hB' hKK
      have hlen : ((g :: gs).filter (· < 2)).length + (T.length + 1) = ((gs.filter (· < 2)).length + (T.length + 1)) + 1 := by
        simp [hlt]; omega
      rw [hlen]
      exact wpNF_first h0 hsel hCS hQ hn (by rw [htag]; exact hlt) _ listed a inv (Region.free_spec h0 hf) hr' hy hfl ih

theorem rs_count : ∀ (gs : List Nat) (k : Nat), (gs.filter (· < 2)).length + (rsTails k gs).length = gs.length
  | [], _ => rfl
  | g :: gs, k => by
    have ih := rs_count gs (k + 1)
    by_cases hg : 2 ≤ g
    · have : ¬ g < 2 := by omega
      simp [rsTails, hg, this] at *; omega
    · have : g < 2 := by omega
      simp [rsTails, hg, this] at *; omega
def rsIdx (g0 : Nat) : Nat → List Nat → List Nat
  | _, [] => []
  | k, g :: gs => if g = g0 then k :: rsIdx g0 (k + 1) gs else rsIdx g0 (k + 1) gs
theorem rsIdx_map (g0 : Nat) : ∀ (l : List Oper) (gs : List Nat) (k : Nat), l.length = gs.length → (∀ j, l[j]? = ops[k + j]?) →
    (rsIdx g0 k gs).map (fun t => ops[t]?) = (rsTailOps g0 l gs).map some
  | [], [], _, _, _ => by simp [rsIdx, rsTailOps]
  | [], _ :: _, _, h, _ => by simp at h
  | _ :: _, [], _, h, _ => by simp at h
  | o :: l, g :: gs, k, hl, h => by
    have h0 : ops[k]? = some o := by simpa using (h 0).symm
    have ih := rsIdx_map g0 l gs (k + 1) (by simpa using hl) (fun j => by have := h (j + 1); simpa [Nat.add_assoc, Nat.add_comm 1 j] using this)
    by_cases hg : g = g0
    · simp [rsIdx, rsTailOps, hg, h0, ih]
    · simp [rsIdx, rsTailOps, hg, ih]
theorem rsIdx_tag (m : List Nat) (g0 : Nat) : ∀ (gs : List Nat) (k : Nat), (∀ j, gs[j]? = m[k + j]?) → ∀ t ∈ rsIdx g0 k gs, rgTag m t = g0 ∧ t < k + gs.length
  | [], _, _, t, h => by simp [rsIdx] at h
  | g :: gs, k, hm, t, h => by
    have hg0 : m[k]? = some g := by simpa using (hm 0).symm
    have ih := rsIdx_tag m g0 gs (k + 1) (fun j => by have := hm (j + 1); simpa [Nat.add_assoc, Nat.add_comm 1 j] using this)
    unfold rsIdx at h
    split at h
    · rename_i hg
      simp only [List.mem_cons] at h
      rcases h with rfl | h
      · exact ⟨by simp [rgTag, hg0, hg], by simp⟩
      · have := ih t h; simp only [List.length_cons]; exact ⟨this.1, by omega⟩
    · have := ih t h; simp only [List.length_cons]; exact ⟨this.1, by omega⟩
theorem rsTails_split : ∀ (gs : List Nat) (k : Nat), rsSorted gs = true → (∀ g ∈ gs, g ≤ 3) → rsTails k gs = rsIdx 2 k gs ++ rsIdx 3 k gs
  | [], _, _, _ => rfl
  | g :: gs, k, hs, h3 => by
    simp only [rsSorted, Bool.and_eq_true, Bool.or_eq_true, decide_eq_true_eq] at hs
    have ih := rsTails_split gs (k + 1) hs.2 (fun g hg => h3 g (by simp [hg]))
    have hg3 := h3 g (by simp)
    by_cases h2 : g = 2
    · subst h2; simp [rsTails, rsIdx, ih]
    · by_cases h3' : g = 3
      · subst h3'
        have hall : ∀ h ∈ gs, h ≠ 2 := by
          rcases hs.1 with h | h
          · exact absurd rfl h
          · intro x hx; simpa using List.all_eq_true.1 h x hx
        have e2 : ∀ (l : List Nat) (k : Nat), (∀ h ∈ l, h ≠ 2) → rsIdx 2 k l = [] := by
          intro l
          induction l with
          | nil => intro k _; rfl
          | cons a l ih => intro k hl; simp [rsIdx, hl a (by simp), ih (k + 1) (fun h hh => hl h (by simp [hh]))]
        simp [rsTails, rsIdx, ih, e2 gs (k + 1) hall]
      · have : ¬ 2 ≤ g := by omega
        simp [rsTails, rsIdx, h2, h3', this, ih]

/-- THE REGION. -/
theorem wp_region_rs {id : Nat} {a : Act} {w : World} {l : List Oper} (m : List Nat) (S : World → Prop) (hm : P.follows .mixedOrders = true) (hB : rsOK l.toArray m = true) (hm3 : m.all (fun g => decide (g ≤ 3)) = true) (hS : ∀ n, S (w.drewN n))
    (h : wpHS P l.toArray (fun w' => ∃ n, w' = w.drewN n) S (fun a' => ∀ w', (∃ n, w' = w.drewN n) → wpListS P l.toArray S (NoPanic Q) (fun a w => wpList P l.toArray (NoPanic Q) (rsTailOps 3 l m) a w) (rsTailOps 2 l m) a' w') l m a) :
    (Code.region id l.toArray true).wp P Q a w := by
  refine wp_region_noPanic (wp_region_any hm ?_)
  unfold rsOK at hB
  cases hT : rsTails 0 m with
  | nil => rw [hT] at hB; cases hB
  | cons t1 T =>
    rw [hT] at hB
    simp only [Bool.and_eq_true, decide_eq_true_eq] at hB
    obtain ⟨⟨⟨⟨⟨⟨hsel, hlen⟩, hn⟩, hr⟩, he⟩, hso⟩, hH⟩ := hB
    have hlen' : l.length = m.length := by simpa using hlen.symm
    have hsp := rsTails_split m 0 hso (fun g hg => by simpa using List.all_eq_true.1 hm3 g hg)
    rw [hT] at hsp
    have h2 := rsIdx_map (ops := l.toArray) 2 l m 0 hlen' (fun j => by simp)
    have h3 := rsIdx_map (ops := l.toArray) 3 l m 0 hlen' (fun j => by simp)
    have hN : ∀ t ∈ rsIdx 3 0 m, rsNeed l.toArray m t = false := fun t ht => by
      obtain ⟨g1, g2⟩ := rsIdx_tag m 3 m 0 (fun j => by simp) t ht
      have := List.all_eq_true.1 he t (List.mem_range.2 (by rw [← hlen]; simpa using g2))
      simpa [g1] using this
    have inv0 : RsInv l.toArray m (Array.replicate l.toArray.size false) :=
      ⟨by simp, fun j oj _ hl => (by rw [getD_replicate_false] at hl; cases hl), fun t ht _ => getD_in (by simpa using ht) (getD_replicate_false _ _)⟩
    have H := wpNF_lex (P := P) (Q := NoPanic Q) (C := fun w' => ∃ n, w' = w.drewN n) (S := S) (T := T) hsel (fun w' hw' => by obtain ⟨n, rfl⟩ := hw'; exact hS n) (fun c a w hp => hp) hn
      (wpListS P l.toArray S (NoPanic Q) (fun a w => wpList P l.toArray (NoPanic Q) (rsTailOps 3 l m) a w) (rsTailOps 2 l m))
      (fun listed a w hB h => by rw [hsp] at hB ⊢; exact anyF_of_two (rsIdx 3 0 m) (rsTailOps 3 l m) h3 hN (rsIdx 2 0 m) (rsTailOps 2 l m) listed a w h2 hB h)
      l m 0 _ a hlen' (fun j => by simp) (fun j => by simp) inv0 hH h
    have hc := rs_count m 0
    rw [hT] at hc
    have hsz : (m.filter (· < 2)).length + (T.length + 1) = l.toArray.size := by
      simp only [List.length_cons] at hc; rw [hc]; exact hlen
    rw [hsz] at H
    exact wpNF_sound _ _ _ H _ ⟨1, rfl⟩

end
end Go.Proofs.Ytcgnficlcgmffaa
