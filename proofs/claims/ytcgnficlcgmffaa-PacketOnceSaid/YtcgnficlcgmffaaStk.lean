/-
  Things that are linked, with a head that all share: what holds whoever steps (plain).
-/
import Derived.Test.YtcgnficlcgmffaaLay
namespace Go.Proofs.Ytcgnficlcgmffaa
open Go.RowKit

theorem ld_pt_same {l : List Int} {a v : Int} (h0 : 0 ≤ a) (h1 : a < l.length) : ld (pt l a v) a = v := by
  unfold pt
  rw [if_pos ⟨h0, h1⟩]
  unfold ld
  have : a.toNat < l.length := by omega
  rw [if_pos (by simp; omega)]
  simp [this]
theorem ld_pt_ne {l : List Int} {a b v : Int} (h : a ≠ b) : ld (pt l a v) b = ld l b := by
  unfold pt
  split
  · unfold ld
    simp only [List.length_set]
    split
    · have : a.toNat ≠ b.toNat := by omega
      simp [List.getD_eq_getElem?_getD, List.getElem?_set_ne this]
    · rfl
  · rfl
theorem ld_pt {l : List Int} {a b v : Int} (h0 : 0 ≤ a) (h1 : a < l.length) : ld (pt l a v) b = if a = b then v else ld l b := by
  split
  · rename_i h; subst h; exact ld_pt_same h0 h1
  · rename_i h; exact ld_pt_ne h
theorem ld_out {l : List Int} {a : Int} (h : ¬ (0 ≤ a ∧ a < l.length)) : ld l a = 0 := by unfold ld; rw [if_neg h]
/-- All words are words. -/
def Wds (l : List Int) : Prop := ∀ v ∈ l, U64 v
theorem Wds.ld {l : List Int} (h : Wds l) (a : Int) : U64 (ld l a) := by
  unfold Go.Proofs.Ytcgnficlcgmffaa.ld
  split
  · exact h _ (getD_mem _ _ (by omega))
  · exact ⟨by omega, by omega⟩
theorem Wds.pt {l : List Int} (h : Wds l) {a v : Int} (hv : U64 v) : Wds (pt l a v) := fun x hx => by
  rcases pt_mem hx with hx | rfl
  · exact h x hx
  · exact hv

/-- From thing x on: the things of a list, linked. -/
def Chain (N : Int) (lk : Int → Int) (mem : List Int) : Int → List Int → Prop
  | x, [] => x = 0
  | x, y :: ys => x = y ∧ 1 ≤ y ∧ y ≤ N ∧ Chain N lk mem (wLo (ld mem (lk y))) ys
theorem Chain.congr {N : Int} {lk : Int → Int} {mem mem' : List Int} : ∀ {l : List Int} {x : Int}, Chain N lk mem x l → (∀ y ∈ l, ld mem' (lk y) = ld mem (lk y)) → Chain N lk mem' x l
  | [], _, h, _ => h
  | y :: ys, x, h, k => by
    obtain ⟨h1, h2, h3, h4⟩ := h
    refine ⟨h1, h2, h3, ?_⟩
    rw [k y (by simp)]
    exact Chain.congr h4 fun z hz => k z (by simp [hz])
theorem Chain.valid {N : Int} {lk : Int → Int} {mem : List Int} : ∀ {l : List Int} {x : Int}, Chain N lk mem x l → ∀ y ∈ l, 1 ≤ y ∧ y ≤ N
  | [], _, _, y, hy => by simp at hy
  | z :: ys, x, h, y, hy => by
    obtain ⟨h1, h2, h3, h4⟩ := h
    rcases List.mem_cons.1 hy with rfl | hy
    · exact ⟨h2, h3⟩
    · exact Chain.valid h4 y hy
theorem Chain.head0 {N : Int} {lk : Int → Int} {mem : List Int} {l : List Int} (h : Chain N lk mem 0 l) : l = [] := by
  cases l with
  | nil => rfl
  | cons y ys => have := h.1; have := h.2.1; omega
theorem Chain.headne {N : Int} {lk : Int → Int} {mem : List Int} {l : List Int} {x : Int} (h : Chain N lk mem x l) (hx : x ≠ 0) : ∃ l', l = x :: l' ∧ Chain N lk mem (wLo (ld mem (lk x))) l' := by
  cases l with
  | nil => exact absurd h hx
  | cons y ys => obtain ⟨rfl, _, _, h4⟩ := h; exact ⟨ys, rfl, h4⟩

/-- Where a stack stands. -/
structure Geo (N : Int) (lk : Int → Int) (hd : Int) (n : Nat) : Prop where
  hd0 : 0 ≤ hd
  hd1 : hd < n
  lk0 : ∀ x, 1 ≤ x → x ≤ N → 0 ≤ lk x ∧ lk x < n
  ne : ∀ x, 1 ≤ x → x ≤ N → lk x ≠ hd
  inj : ∀ x y, 1 ≤ x → x ≤ N → 1 ≤ y → y ≤ N → lk x = lk y → x = y
  small : N < 4294967296

/-- What a machine that is not finished knows of the stack. -/
structure MInv (lk : Int → Int) (hd : Int) (mem : List Int) (m : SM) : Prop where
  head : m.head = hd
  pc : m.pc ≤ 6
  ver : m.pc = 2 ∨ m.pc = 3 ∨ m.pc = 5 ∨ m.pc = 6 → U64 m.h ∧ (wHi m.h < wHi (ld mem hd) ∨ m.h = ld mem hd)
  p2 : m.pc = 2 ∨ m.pc = 3 → m.link = wLo m.h
  p3 : m.pc = 3 → ld mem (lk m.item) = m.link
  p5 : m.pc = 5 ∨ m.pc = 6 → m.item = wLo m.h ∧ m.item ≠ 0
  p6 : m.pc = 6 → m.h = ld mem hd → m.link = wLo (ld mem (lk m.item))

/-- What others may do to a stack on which a machine works. -/
theorem MInv.other {lk : Int → Int} {hd : Int} {mem mem' : List Int} {m : SM} {N : Int} {l : List Int} (h : MInv lk hd mem m) (hC : Chain N lk mem (wLo (ld mem hd)) l)
    (hh : ld mem' hd = ld mem hd ∧ (∀ x ∈ l, ld mem' (lk x) = ld mem (lk x)) ∨ wHi (ld mem' hd) = wHi (ld mem hd) + 1)
    (h3 : m.pc = 3 → ld mem' (lk m.item) = ld mem (lk m.item)) : MInv lk hd mem' m := by
  refine ⟨h.head, h.pc, fun hp => ?_, h.p2, fun hp => (h3 hp).trans (h.p3 hp), h.p5, fun hp he => ?_⟩
  · obtain ⟨u, hv⟩ := h.ver hp
    refine ⟨u, ?_⟩
    rcases hh with ⟨e, _⟩ | e
    · rw [e]; exact hv
    · left
      rcases hv with hv | hv
      · omega
      · rw [hv, e]; omega
  · obtain ⟨u, hv⟩ := h.ver (by omega)
    obtain ⟨e1, e2⟩ := h.p5 (.inr hp)
    rcases hh with ⟨e, hl⟩ | e
    · rw [e] at he
      rw [h.p6 hp he]
      obtain ⟨l', rfl, _⟩ := hC.headne (by rw [← he, ← e1]; exact e2)
      rw [hl m.item (by rw [e1, he]; simp)]
    · exfalso
      rcases hv with hv | hv
      · rw [he] at hv; omega
      · rw [hv] at he
        rw [he] at e
        omega

theorem wLo_pair {a b : Int} (h : U32 b) : wLo (wPair a b) = b := by unfold U32 at h; unfold wLo wPair; omega
theorem wHi_pair {a b : Int} (h : U32 b) : wHi (wPair a b) = a := by unfold U32 at h; unfold wHi wPair; omega
theorem wHi_turn {x b : Int} (h : U32 b) (hx : U64 x) (hv : wHi x + 1 < 4294967296) : wHi (wTurn x b) = wHi x + 1 := by
  have := wHi_u32 hx
  unfold U32 at this
  unfold wTurn
  rw [wHi_pair h]
  omega
theorem wLo_turn {x b : Int} (h : U32 b) : wLo (wTurn x b) = b := by unfold wTurn; exact wLo_pair h

/-- What a step of a machine does to its stack. -/
inductive SMOut (N : Int) (lk : Int → Int) (hd : Int) (mem : List Int) (l : List Int) (m : SM) (mem' : List Int) (m' : SM) : Prop
  | quiet (hm : mem' = mem) (hpc : m'.pc ≠ 0) (hk : m.pc ≤ 3 ↔ m'.pc ≤ 3) (hi : m.pc ≤ 3 → m'.item = m.item) (inv : MInv lk hd mem' m')
  | linked (hp : m.pc = 2) (hm : mem' = pt mem (lk m.item) m.link) (hpc : m'.pc = 3) (hi : m'.item = m.item) (inv : MInv lk hd mem' m')
  | pushed (hp : m.pc = 3) (hm : mem' = pt mem hd (wTurn (ld mem hd) m.item)) (hpc : m'.pc = 0) (hi : m'.item = m.item) (hC : Chain N lk mem' (wLo (ld mem' hd)) (m.item :: l))
  | popped (l' : List Int) (hp : m.pc = 6) (hlu : U32 m.link) (hl : l = m.item :: l') (hm : mem' = pt mem hd (wTurn (ld mem hd) m.link)) (hpc : m'.pc = 0) (hi : m'.item = m.item) (hC : Chain N lk mem' (wLo (ld mem' hd)) l')
  | empty (hp : m.pc = 4) (hl : l = []) (hm : mem' = mem) (hpc : m'.pc = 0) (hi : m'.item = 0)

theorem sm_out {N : Int} {lk : Int → Int} {hd : Int} {σ : St} {l : List Int} {m : SM} (G : Geo N lk hd σ.mem.length) (hW : Wds σ.mem) (hC : Chain N lk σ.mem (wLo (ld σ.mem hd)) l) (hI : MInv lk hd σ.mem m) (hpc : m.pc ≠ 0)
    (hitem : m.pc ≤ 3 → 1 ≤ m.item ∧ m.item ≤ N ∧ m.item ∉ l) (hv : wHi (ld σ.mem hd) + 1 < 4294967296) :
    SMOut N lk hd σ.mem l m (SM.step lk σ m).1.mem (SM.step lk σ m).2 := by
  obtain ⟨head, item, h, link, tries, pc⟩ := m
  obtain ⟨hh, hpc6, hver, h2, h3, h5, h6⟩ := hI
  simp only at hh hpc6 hver h2 h3 h5 h6 hpc hitem
  subst hh
  have hu := hW.ld head
  have hcase : pc = 1 ∨ pc = 2 ∨ pc = 3 ∨ pc = 4 ∨ pc = 5 ∨ pc = 6 := by omega
  have hsw : ∀ v, h = ld σ.mem head → (σ.swaps head h = true ∧ (σ.swap head h v).mem = pt σ.mem head v) := fun v e => by
    have : σ.swaps head h = true := by simp [St.swaps, G.hd0, G.hd1, St.load, e]
    exact ⟨this, by simp [St.swap, this, St.put]⟩
  have hns : ∀ v, h ≠ ld σ.mem head → (σ.swaps head h = false ∧ (σ.swap head h v).mem = σ.mem) := fun v e => by
    have : σ.swaps head h = false := by unfold St.swaps St.load; rw [decide_eq_false_iff_not]; intro h'; exact e h'.2.2.symm
    exact ⟨this, by simp [St.swap, this, St.tick]⟩
  rcases hcase with rfl | rfl | rfl | rfl | rfl | rfl
  · refine .quiet rfl (by simp [SM.step]) (by simp [SM.step]) (by simp [SM.step]) ⟨rfl, by simp [SM.step], fun _ => ⟨hu, .inr rfl⟩, fun _ => rfl, by simp [SM.step], by simp [SM.step], by simp [SM.step]⟩
  · obtain ⟨i1, i2, i3⟩ := hitem (by omega)
    obtain ⟨u, v⟩ := hver (by simp)
    obtain ⟨g0, g1⟩ := G.lk0 item i1 i2
    have hne := G.ne item i1 i2
    have he : ld (pt σ.mem (lk item) link) head = ld σ.mem head := ld_pt_ne hne
    refine .linked rfl rfl (by simp [SM.step]) (by simp [SM.step]) ⟨rfl, by simp [SM.step], fun _ => ⟨u, ?_⟩, fun _ => h2 (by simp), fun _ => ?_, by simp [SM.step], by simp [SM.step]⟩
    · simp only [SM.step, St.put]; rw [he]; exact v
    · simp only [SM.step, St.put]; exact ld_pt_same g0 g1
  · obtain ⟨i1, i2, i3⟩ := hitem (by omega)
    obtain ⟨u, v⟩ := hver (by simp)
    have iu : U32 item := ⟨by omega, by have := G.small; omega⟩
    by_cases e : h = ld σ.mem head
    · obtain ⟨s1, s2⟩ := hsw (wTurn h item) e
      have hm : (SM.step lk σ ⟨head, item, h, link, tries, 3⟩).1.mem = pt σ.mem head (wTurn (ld σ.mem head) item) := by simp only [SM.step, s2]; rw [e]
      refine .pushed rfl hm (by simp [SM.step, s1, pcIf]) (by simp [SM.step]) ?_
      rw [hm, ld_pt_same G.hd0 G.hd1, wLo_turn iu]
      refine ⟨rfl, i1, i2, ?_⟩
      have hl : ∀ y, 1 ≤ y → y ≤ N → ld (pt σ.mem head (wTurn (ld σ.mem head) item)) (lk y) = ld σ.mem (lk y) := fun y y1 y2 => ld_pt_ne (G.ne y y1 y2).symm
      rw [hl item i1 i2, h3 rfl, h2 (by simp)]
      have : wLo (wLo h) = wLo h := by unfold wLo; omega
      rw [this, e]
      exact hC.congr fun y hy => hl y (hC.valid y hy).1 (hC.valid y hy).2
    · obtain ⟨s1, s2⟩ := hns (wTurn h item) e
      refine .quiet (by simp only [SM.step, s2]) (by simp [SM.step, s1, pcIf]) (by simp [SM.step, s1, pcIf]) (by simp [SM.step]) ⟨rfl, by simp [SM.step, s1, pcIf], by simp [SM.step, s1, pcIf], by simp [SM.step, s1, pcIf], by simp [SM.step, s1, pcIf], by simp [SM.step, s1, pcIf], by simp [SM.step, s1, pcIf]⟩
  · by_cases e : wLo (ld σ.mem head) = 0
    · have hl : l = [] := by rw [e] at hC; exact hC.head0
      exact .empty rfl hl rfl (by simp [SM.step, St.load, e, pcIf]) (by simp [SM.step, St.load, e])
    · refine .quiet rfl (by simp [SM.step, St.load, e, pcIf]) (by simp [SM.step, St.load, e, pcIf]) (by simp) ⟨rfl, by simp [SM.step, St.load, e, pcIf], fun _ => ⟨hu, .inr rfl⟩, by simp [SM.step, St.load, e, pcIf], by simp [SM.step, St.load, e, pcIf], fun _ => ⟨rfl, e⟩, by simp [SM.step, St.load, e, pcIf]⟩
  · obtain ⟨u, v⟩ := hver (by simp)
    refine .quiet rfl (by simp [SM.step]) (by simp [SM.step]) (by simp) ⟨rfl, by simp [SM.step], fun _ => ⟨u, v⟩, by simp [SM.step], by simp [SM.step], fun _ => h5 (by simp), fun _ _ => rfl⟩
  · obtain ⟨u, v⟩ := hver (by simp)
    obtain ⟨e1, e2⟩ := h5 (by simp)
    by_cases e : h = ld σ.mem head
    · have hlink := h6 rfl e
      have lu : U32 link := by rw [hlink]; exact wLo_u32 _
      obtain ⟨s1, s2⟩ := hsw (wTurn h link) e
      have hm : (SM.step lk σ ⟨head, item, h, link, tries, 6⟩).1.mem = pt σ.mem head (wTurn (ld σ.mem head) link) := by simp only [SM.step, s2]; rw [e]
      obtain ⟨l', hl, hC'⟩ := hC.headne (x := wLo (ld σ.mem head)) (by rw [← e, ← e1]; exact e2)
      rw [← e, ← e1] at hl
      refine .popped l' rfl lu hl hm (by simp [SM.step, s1, pcIf]) (by simp [SM.step]) ?_
      rw [hm, ld_pt_same G.hd0 G.hd1, wLo_turn lu, hlink]
      rw [← e, ← e1] at hC'
      have hval := hC.valid
      exact hC'.congr fun y hy => ld_pt_ne (G.ne y (hval y (by rw [hl]; simp [hy])).1 (hval y (by rw [hl]; simp [hy])).2).symm
    · obtain ⟨s1, s2⟩ := hns (wTurn h link) e
      refine .quiet (by simp only [SM.step, s2]) (by simp [SM.step, s1, pcIf]) (by simp [SM.step, s1, pcIf]) (by simp) ⟨rfl, by simp [SM.step, s1, pcIf], by simp [SM.step, s1, pcIf], by simp [SM.step, s1, pcIf], by simp [SM.step, s1, pcIf], by simp [SM.step, s1, pcIf], by simp [SM.step, s1, pcIf]⟩
end Go.Proofs.Ytcgnficlcgmffaa
