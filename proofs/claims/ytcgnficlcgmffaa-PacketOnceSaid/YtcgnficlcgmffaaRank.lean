/-
  How many steps a machine of packets has left, if no other one turns a head (plain).
-/
import Derived.Test.YtcgnficlcgmffaaPk
import Derived.Test.YtcgnficlcgmffaaRun
namespace Go.Proofs.Ytcgnficlcgmffaa
open Go.RowKit

/-- Has the head turned since it was loaded? -/
def stale (mem : List Int) (hd : Int) (x : SM) : Bool := (decide (x.pc = 2) || decide (x.pc = 3) || decide (x.pc = 5) || decide (x.pc = 6)) && decide (x.h ≠ ld mem hd)
def rankS (mem : List Int) (hd : Int) (x : SM) : Nat :=
  (match x.pc with | 1 => 3 | 2 => 2 | 3 => 1 | 4 => 3 | 5 => 2 | 6 => 1 | _ => 0) + if stale mem hd x then 3 else 0
def headOf (m : PM) : Int := if m.pc = 1 then 5 else m.x.head
def rankP (mem : List Int) (m : PM) : Nat :=
  match m.pc with
  | 1 => rankS mem 5 m.x + (m.tasks.length - m.j) + 4
  | 2 => (m.tasks.length - m.j) + 4
  | 3 => 4
  | 4 => rankS mem m.x.head m.x
  | _ => 0
/-- How many heads it has still to turn. -/
def turnsP (m : PM) : Nat := match m.pc with | 1 => 2 | 2 => 1 | 3 => 1 | 4 => 1 | _ => 0

theorem rankS_pos {mem : List Int} {hd : Int} {x : SM} (h0 : x.pc ≠ 0) (h6 : x.pc ≤ 6) : 1 ≤ rankS mem hd x ∧ rankS mem hd x ≤ 5 := by
  have : x.pc = 1 ∨ x.pc = 2 ∨ x.pc = 3 ∨ x.pc = 4 ∨ x.pc = 5 ∨ x.pc = 6 := by omega
  unfold rankS stale
  rcases this with h | h | h | h | h | h <;> rw [h] <;> simp <;> split <;> omega
/-- A step of a stack's machine: it comes nearer to its end; and it turns the head only if it ends. -/
theorem sm_rank {lk : Int → Int} {hd : Int} {mem : List Int} {m : SM} (h : m.head = hd) (h0 : m.pc ≠ 0) (h6 : m.pc ≤ 6) (hg : 0 ≤ hd ∧ hd < mem.length) (hlk : m.pc = 2 → lk m.item ≠ hd) (mem' : List Int) (m' : SM)
    (e1 : mem' = (SM.step lk (memSt mem) m).1.mem) (e2 : m' = (SM.step lk (memSt mem) m).2) :
    rankS mem' hd m' + 1 ≤ rankS mem hd m ∧ m'.head = hd ∧ (m'.pc ≠ 0 → ld mem' hd = ld mem hd ∧ (m.pc ≤ 3 ↔ m'.pc ≤ 3)) := by
  subst e1 e2
  obtain ⟨head, item, hh, link, tries, pc⟩ := m
  simp only at h h0 h6 hlk
  subst h
  have hsw : ∀ o, (memSt mem).swaps head o = decide (ld mem head = o) := fun o => by
    simp [St.swaps, memSt, St.load, hg.1, hg.2]
  have hcase : pc = 1 ∨ pc = 2 ∨ pc = 3 ∨ pc = 4 ∨ pc = 5 ∨ pc = 6 := by omega
  rcases hcase with rfl | rfl | rfl | rfl | rfl | rfl
  · simp [SM.step, rankS, stale, St.tick, memSt, St.load]
  · have hn : ld (pt mem (lk item) link) head = ld mem head := ld_pt_ne (hlk rfl)
    simp [SM.step, rankS, stale, St.put, memSt, hn]
    split <;> omega
  · by_cases e : ld mem head = hh
    · have hs : (memSt mem).swaps head hh = true := by rw [hsw]; simpa using e
      simp [SM.step, hs, e, pcIf, rankS, stale]
    · have e' : ¬ hh = ld mem head := fun h => e h.symm
      have hs : (memSt mem).swaps head hh = false := by rw [hsw]; simpa using e
      simp [SM.step, hs, e, e', pcIf, rankS, stale, St.swap, St.tick]
  · by_cases e : wLo (ld mem head) = 0
    · simp [SM.step, memSt, St.load, e, pcIf, rankS, stale]
    · simp [SM.step, memSt, St.load, e, pcIf, rankS, stale, St.tick]
  · simp [SM.step, memSt, rankS, stale, St.tick]
    split <;> omega
  · by_cases e : ld mem head = hh
    · have hs : (memSt mem).swaps head hh = true := by rw [hsw]; simpa using e
      simp [SM.step, hs, e, pcIf, rankS, stale]
    · have e' : ¬ hh = ld mem head := fun h => e h.symm
      have hs : (memSt mem).swaps head hh = false := by rw [hsw]; simpa using e
      simp [SM.step, hs, e, e', pcIf, rankS, stale, St.swap, St.tick]

theorem rankP_pos {mem : List Int} {m : PM} (h0 : m.pc ≠ 0) (h4 : m.pc ≤ 4) (hx : m.pc = 4 → m.x.pc ≠ 0 ∧ m.x.pc ≤ 6) : 1 ≤ rankP mem m := by
  have : m.pc = 1 ∨ m.pc = 2 ∨ m.pc = 3 ∨ m.pc = 4 := by omega
  unfold rankP
  rcases this with h | h | h | h
  · rw [h]; simp only; omega
  · rw [h]; simp only; omega
  · rw [h]; simp only; omega
  · rw [h]; exact (rankS_pos (hx h).1 (hx h).2).1
theorem rankS_other (mem mem' : List Int) (hd : Int) (x : SM) : rankS mem' hd x ≤ rankS mem hd x + 3 ∧ (ld mem' hd = ld mem hd → rankS mem' hd x = rankS mem hd x) := by
  refine ⟨?_, fun h => by unfold rankS stale; rw [h]⟩
  unfold rankS
  split <;> split <;> omega
theorem rankP_other (mem mem' : List Int) (m : PM) : rankP mem' m ≤ rankP mem m + 3 ∧ (ld mem' 4 = ld mem 4 → ld mem' 5 = ld mem 5 → (m.pc = 4 → m.x.head = 4 ∨ m.x.head = 5) → rankP mem' m = rankP mem m) := by
  obtain ⟨a1, a2⟩ := rankS_other mem mem' 5 m.x
  obtain ⟨b1, b2⟩ := rankS_other mem mem' m.x.head m.x
  constructor
  · unfold rankP
    split <;> omega
  · intro h4 h5 hh
    unfold rankP
    split
    · rw [a2 h5]
    · rfl
    · rfl
    · rename_i hp
      rw [b2 (by rcases hh hp with h | h <;> rw [h] <;> assumption)]
    · rfl

section
variable {L : Lay} {mem : List Int} {loc : Int → Loc} {sp pl : List Int} {i : Nat}
theorem PMInv.head4 {m : PM} (h : PMInv L mem loc i m) (hp : m.pc = 4) : (m.x.head = 4 ∨ m.x.head = 5) ∧ m.x.pc ≤ 6 ∧ m.x.pc ≠ 0 := by
  obtain ⟨a, b⟩ := h.h4 hp
  by_cases h3 : m.x.pc ≤ 3
  · rcases (b h3).2.2 with ⟨c, _⟩ | ⟨c, _⟩
    · exact ⟨.inl c.head, c.pc, a⟩
    · exact ⟨.inr c.head, c.pc, a⟩
  · obtain ⟨c, _⟩ := h.h4p hp (by omega)
    exact ⟨.inl c.head, c.pc, a⟩
theorem pm_rank {m : PM} (I : PkInv L mem loc sp pl) (h : PMInv L mem loc i m) (hpc : m.pc ≠ 0) (hsp : m.pc = 1 → sp ≠ []) (y : List Int × PM) (hy : y = PM.on L (mem, m)) :
    rankP y.1 y.2 + 1 ≤ rankP mem m ∧ turnsP y.2 ≤ turnsP m ∧ (ld y.1 4 = ld mem 4 ∧ ld y.1 5 = ld mem 5 ∨ turnsP y.2 + 1 ≤ turnsP m) := by
  subst hy
  have hcase : m.pc = 1 ∨ m.pc = 2 ∨ m.pc = 3 ∨ m.pc = 4 := by have := h.pc; omega
  have G5 := I.geo.geo 5 (.inr rfl)
  have G4 := I.geo.geo 4 (.inl rfl)
  have hoth : ∀ (x : SM) hd, x.head = hd → (hd = 4 ∨ hd = 5) → x.pc ≠ 0 → x.pc ≤ 6 → (x.pc = 2 → 1 ≤ x.item ∧ x.item ≤ L.many) → ((SM.step L.link (memSt mem) x).2.pc ≠ 0 → ld (SM.step L.link (memSt mem) x).1.mem 4 = ld mem 4 ∧ ld (SM.step L.link (memSt mem) x).1.mem 5 = ld mem 5) := by
    intro x hd h1 h2 h3 h6 h4 h5
    have hg : 0 ≤ hd ∧ hd < mem.length := by rcases h2 with rfl | rfl <;> exact ⟨by omega, by first | exact G4.hd1 | exact G5.hd1⟩
    have hlk : x.pc = 2 → L.link x.item ≠ hd := fun hp => by
      obtain ⟨a, b⟩ := h4 hp
      rcases h2 with rfl | rfl
      · exact G4.ne _ a b
      · exact G5.ne _ a b
    obtain ⟨_, _, r⟩ := sm_rank (lk := L.link) h1 h3 h6 hg hlk _ _ rfl rfl
    obtain ⟨r, _⟩ := r h5
    obtain ⟨head, item, hh, link, tries, pc⟩ := x
    simp only at h1 h3 h6 h4
    subst h1
    have hcase : pc = 1 ∨ pc = 2 ∨ pc = 3 ∨ pc = 4 ∨ pc = 5 ∨ pc = 6 := by omega
    rcases hcase with rfl | rfl | rfl | rfl | rfl | rfl
    · exact ⟨rfl, rfl⟩
    · obtain ⟨a, b⟩ := h4 rfl
      have n4 := G4.ne _ a b
      have n5 := G5.ne _ a b
      simp only [SM.step, St.put, memSt_mem]
      exact ⟨ld_pt_ne n4, ld_pt_ne n5⟩
    · cases hs : (memSt mem).swaps head hh with
      | true => simp [SM.step, hs, pcIf] at h5
      | false => simp [SM.step, hs, St.swap, St.tick]
    · exact ⟨rfl, rfl⟩
    · exact ⟨rfl, rfl⟩
    · cases hs : (memSt mem).swaps head hh with
      | true => simp [SM.step, hs, pcIf] at h5
      | false => simp [SM.step, hs, St.swap, St.tick]
  obtain ⟨tasks, j, p, x, pc⟩ := m
  rcases hcase with rfl | rfl | rfl | rfl
  · obtain ⟨a, b, hj0, hne⟩ := h.h1 rfl
    simp only at a b hj0 hne
    have hx6 := a.pc
    have hr := sm_rank (lk := L.link) a.head (by omega) hx6 ⟨G5.hd0, G5.hd1⟩ (by omega) _ _ rfl rfl
    have ho := hoth x 5 a.head (.inr rfl) (by omega) hx6 (by omega)
    have hemp : (SM.step L.link (memSt mem) x).2.pc = 0 → (SM.step L.link (memSt mem) x).2.item ≠ 0 := fun hz hi => by
      obtain ⟨head, item, hh, link, tries, pc⟩ := x
      have hh' : head = 5 := a.head
      simp only at b hx6
      have hc : pc = 4 ∨ pc = 5 ∨ pc = 6 := by omega
      rcases hc with rfl | rfl | rfl
      · have hz0 : wLo (ld mem 5) = 0 := by
          by_cases e : wLo (ld mem 5) = 0
          · exact e
          · simp [SM.step, St.load, hh', e, pcIf] at hz
        have := I.csp
        rw [hz0] at this
        exact hsp rfl this.head0
      · simp [SM.step] at hz
      · have := (a.p5 (.inr rfl)).2
        simp only at this
        simp [SM.step] at hi
        exact this hi
    have hst : PM.on L (mem, ⟨tasks, j, p, x, 1⟩) = (let q := SM.step L.link (memSt mem) x
      if q.2.pc = 0 then
        if q.2.item = 0 then (q.1.mem, { tasks, j, p := 0, x := popSM 5, pc := 1 }) else (q.1.mem, { tasks, j, p := q.2.item, x := q.2, pc := 2 })
      else (q.1.mem, { tasks, j, p, x := q.2, pc := 1 })) := by
        unfold PM.on
        simp only [PM.step]
        split
        · split <;> rfl
        · rfl
    rw [hst]
    generalize SM.step L.link (memSt mem) x = q at hr ho hemp
    obtain ⟨σ', x'⟩ := q
    simp only at hr ho hemp ⊢
    by_cases hz : x'.pc = 0
    · have hi := hemp hz
      simp only [hz, if_true, hi, if_false, rankP, turnsP]
      exact ⟨by omega, by omega, .inr (by omega)⟩
    · simp only [hz, if_false, rankP, turnsP]
      exact ⟨by omega, by omega, .inl (ho hz)⟩
  · obtain ⟨a, b, c, d⟩ := h.h2 (.inl rfl)
    have hj := h.h2j rfl
    have hl := h.len
    simp only at a b c d hj hl
    have e4 : ld (PM.on L (mem, ⟨tasks, j, p, x, 2⟩)).1 4 = ld mem 4 := by
      have := I.geo.at a.1 a.2 (k := 2 + (j : Int)) (by omega) (by omega)
      simp only [PM.on, PM.step, St.put, memSt_mem, task_eq _ _ _ (show 0 ≤ (j : Int) ∧ (j : Int) < 4 by omega)]
      exact ld_pt_ne (by omega)
    have e5 : ld (PM.on L (mem, ⟨tasks, j, p, x, 2⟩)).1 5 = ld mem 5 := by
      have := I.geo.at a.1 a.2 (k := 2 + (j : Int)) (by omega) (by omega)
      simp only [PM.on, PM.step, St.put, memSt_mem, task_eq _ _ _ (show 0 ≤ (j : Int) ∧ (j : Int) < 4 by omega)]
      exact ld_pt_ne (by omega)
    refine ⟨?_, ?_, .inl ⟨e4, e5⟩⟩
    · simp only [PM.on, PM.step, rankP]
      by_cases e : j + 1 = tasks.length
      · simp only [e, if_true]; omega
      · simp only [e, if_false]; omega
    · simp only [PM.on, PM.step, turnsP]
      by_cases e : j + 1 = tasks.length
      · simp only [e, if_true]; omega
      · simp only [e, if_false]; omega
  · obtain ⟨a, b, c, d⟩ := h.h2 (.inr rfl)
    simp only at a
    have ha := I.geo.at a.1 a.2 (k := 0) (by omega) (by omega)
    have e4 : ld (PM.on L (mem, ⟨tasks, j, p, x, 3⟩)).1 4 = ld mem 4 := by
      simp only [PM.on, PM.step, St.put, memSt_mem]
      exact ld_pt_ne (by show L.packet p 0 ≠ 4; omega)
    have e5 : ld (PM.on L (mem, ⟨tasks, j, p, x, 3⟩)).1 5 = ld mem 5 := by
      simp only [PM.on, PM.step, St.put, memSt_mem]
      exact ld_pt_ne (by show L.packet p 0 ≠ 5; omega)
    refine ⟨?_, by simp [PM.on, PM.step, turnsP], .inl ⟨e4, e5⟩⟩
    simp [PM.on, PM.step, rankP, pushSM, rankS, stale]
  · obtain ⟨hh, h6, h0⟩ := h.head4 rfl
    simp only at hh h6 h0
    have hit : x.pc = 2 → 1 ≤ x.item ∧ x.item ≤ L.many := fun hp => ((h.h4 rfl).2 (by simp only; omega)).1
    have ho := hoth x x.head rfl hh h0 h6 hit
    have hg : 0 ≤ x.head ∧ x.head < mem.length := by
      have := G5.hd1
      rcases hh with h | h <;> rw [h] <;> omega
    have hlk : x.pc = 2 → L.link x.item ≠ x.head := fun hp => by
      obtain ⟨a, b⟩ := hit hp
      rcases hh with h | h <;> rw [h]
      · exact G4.ne _ a b
      · exact G5.ne _ a b
    have hr := sm_rank (lk := L.link) rfl h0 h6 hg hlk _ _ rfl rfl
    have hst : PM.on L (mem, ⟨tasks, j, p, x, 4⟩) = (let q := SM.step L.link (memSt mem) x
      if q.2.pc = 0 then (q.1.mem, { tasks, j, p := q.2.item, x := q.2, pc := 0 }) else (q.1.mem, { tasks, j, p, x := q.2, pc := 4 })) := by
        unfold PM.on
        simp only [PM.step]
        split <;> rfl
    rw [hst]
    generalize SM.step L.link (memSt mem) x = q at hr ho
    obtain ⟨σ', x'⟩ := q
    simp only at hr ho ⊢
    by_cases hz : x'.pc = 0
    · simp only [hz, if_true, rankP, turnsP]
      have := (rankS_pos (mem := mem) (hd := x.head) h0 h6).1
      exact ⟨by omega, by omega, .inr (by omega)⟩
    · simp only [hz, if_false, rankP, turnsP, hr.2.1]
      exact ⟨by omega, by omega, .inl (ho hz)⟩
end
end Go.Proofs.Ytcgnficlcgmffaa
