/-
  Packets of tasks: what holds whoever steps (plain).
-/
import Derived.Test.YtcgnficlcgmffaaStk
namespace Go.Proofs.Ytcgnficlcgmffaa
open Go.RowKit

/-- Where packets stand. -/
structure PGeo (L : Lay) (n : Nat) : Prop where
  lo : 6 ≤ L.packets
  hi : L.packets + L.many * 6 ≤ n
  many : 0 ≤ L.many ∧ L.many ≤ 10000
theorem PGeo.at {L : Lay} {n : Nat} (G : PGeo L n) {x k : Int} (h1 : 1 ≤ x) (h2 : x ≤ L.many) (k0 : 0 ≤ k) (k1 : k ≤ 5) :
    L.packet x k = L.packets + (x - 1) * 6 + k ∧ 6 ≤ L.packet x k ∧ L.packet x k < n := by
  have e : L.packet x k = L.packets + (x - 1) * 6 + k := by unfold Lay.packet; rw [if_pos ⟨h1, h2⟩]
  have := G.lo
  have := G.hi
  rw [e]
  omega
theorem PGeo.inj {L : Lay} {n : Nat} (G : PGeo L n) {x k y l : Int} (h1 : 1 ≤ x) (h2 : x ≤ L.many) (k0 : 0 ≤ k) (k1 : k ≤ 5) (h3 : 1 ≤ y) (h4 : y ≤ L.many) (l0 : 0 ≤ l) (l1 : l ≤ 5)
    (e : L.packet x k = L.packet y l) : x = y ∧ k = l := by
  rw [(G.at h1 h2 k0 k1).1, (G.at h3 h4 l0 l1).1] at e
  omega
theorem PGeo.geo {L : Lay} {n : Nat} (G : PGeo L n) (hd : Int) (h : hd = 4 ∨ hd = 5) : Geo L.many L.link hd n := by
  have := G.lo
  have := G.hi
  have := G.many
  refine ⟨by omega, by omega, fun x h1 h2 => ?_, fun x h1 h2 => ?_, fun x y h1 h2 h3 h4 e => ?_, by omega⟩
  · have := G.at h1 h2 (k := 1) (by omega) (by omega)
    show 0 ≤ L.packet x 1 ∧ L.packet x 1 < n
    omega
  · have := G.at h1 h2 (k := 1) (by omega) (by omega)
    show L.packet x 1 ≠ hd
    omega
  · exact (G.inj h1 h2 (by omega) (by omega) h3 h4 (by omega) (by omega) e).1

/-- Where a packet is. -/
inductive Loc | spare | pool | act (i : Nat)
deriving DecidableEq
def setLoc (loc : Int → Loc) (x : Int) (v : Loc) : Int → Loc := fun y => if y = x then v else loc y
theorem setLoc_same (loc : Int → Loc) (x : Int) (v : Loc) : setLoc loc x v x = v := by simp [setLoc]
theorem setLoc_ne {loc : Int → Loc} {x y : Int} {v : Loc} (h : y ≠ x) : setLoc loc x v y = loc y := by simp [setLoc, h]

structure PkInv (L : Lay) (mem : List Int) (loc : Int → Loc) (sp pl : List Int) : Prop where
  geo : PGeo L mem.length
  wds : Wds mem
  csp : Chain L.many L.link mem (wLo (ld mem 5)) sp
  cpl : Chain L.many L.link mem (wLo (ld mem 4)) pl
  nsp : sp.Nodup
  npl : pl.Nodup
  lsp : ∀ x, x ∈ sp ↔ (1 ≤ x ∧ x ≤ L.many) ∧ loc x = .spare
  lpl : ∀ x, x ∈ pl ↔ (1 ≤ x ∧ x ≤ L.many) ∧ loc x = .pool

/-- A packet's tasks are these. -/
def Full (L : Lay) (mem : List Int) (p : Int) (ts : List Int) : Prop := ld mem (L.manyAt p) = ts.length ∧ ∀ k : Nat, k < ts.length → ld mem (L.task p k) = ts.getD k 0

structure PMInv (L : Lay) (mem : List Int) (loc : Int → Loc) (i : Nat) (m : PM) : Prop where
  pc : m.pc ≤ 4
  words : ∀ v ∈ m.tasks, U64 v
  len : m.tasks.length ≤ 4
  h1 : m.pc = 1 → MInv L.link 5 mem m.x ∧ 4 ≤ m.x.pc ∧ m.j = 0 ∧ m.tasks ≠ []
  h2 : m.pc = 2 ∨ m.pc = 3 → (1 ≤ m.p ∧ m.p ≤ L.many) ∧ loc m.p = .act i ∧ (∀ k : Nat, k < m.j → ld mem (L.task m.p k) = m.tasks.getD k 0) ∧ m.tasks ≠ []
  h2j : m.pc = 2 → m.j < m.tasks.length
  h3j : m.pc = 3 → m.j = m.tasks.length
  h4 : m.pc = 4 → m.x.pc ≠ 0 ∧ (m.x.pc ≤ 3 → (1 ≤ m.x.item ∧ m.x.item ≤ L.many) ∧ loc m.x.item = .act i ∧ (MInv L.link 4 mem m.x ∧ Full L mem m.x.item m.tasks ∧ m.tasks ≠ [] ∨ MInv L.link 5 mem m.x ∧ m.tasks = []))
  h4p : m.pc = 4 → 3 < m.x.pc → MInv L.link 4 mem m.x ∧ m.tasks = []

/-- What a step of actor i may change. -/
structure PFr (L : Lay) (mem mem' : List Int) (loc loc' : Int → Loc) (i : Nat) : Prop where
  len : mem'.length = mem.length
  fr : ∀ a, ld mem' a = ld mem a ∨ a = 4 ∨ a = 5 ∨ ∃ x k, (1 ≤ x ∧ x ≤ L.many) ∧ loc x = .act i ∧ 0 ≤ k ∧ k ≤ 5 ∧ a = L.packet x k
  v5 : ld mem' 5 = ld mem 5 ∨ wHi (ld mem' 5) = wHi (ld mem 5) + 1
  v4 : ld mem' 4 = ld mem 4 ∨ wHi (ld mem' 4) = wHi (ld mem 4) + 1
  loc : ∀ x, loc' x = loc x ∨ ∀ j, j ≠ i → loc x ≠ .act j ∧ loc' x ≠ .act j
theorem PFr.refl (L : Lay) (mem : List Int) (loc : Int → Loc) (i : Nat) : PFr L mem mem loc loc i := ⟨rfl, fun _ => .inl rfl, .inl rfl, .inl rfl, fun _ => .inl rfl⟩

section
variable {L : Lay} {mem mem' : List Int} {loc loc' : Int → Loc} {sp pl : List Int} {i : Nat}
theorem PFr.own (F : PFr L mem mem' loc loc' i) (G : PGeo L mem.length) {x k : Int} (h1 : 1 ≤ x) (h2 : x ≤ L.many) (k0 : 0 ≤ k) (k1 : k ≤ 5)
    (hl : loc x ≠ .act i) : ld mem' (L.packet x k) = ld mem (L.packet x k) := by
  have hp := G.at h1 h2 k0 k1
  rcases F.fr (L.packet x k) with h | h | h | ⟨y, l, hy, hly, l0, l1, e⟩
  · exact h
  · omega
  · omega
  · obtain ⟨rfl, _⟩ := G.inj h1 h2 k0 k1 hy.1 hy.2 l0 l1 e
    exact absurd hly hl
theorem task_eq (L : Lay) (p : Int) (k : Int) (h : 0 ≤ k ∧ k < 4) : L.task p k = L.packet p (2 + k) := by unfold Lay.task; rw [if_pos h]
theorem Full.other {p : Int} {ts : List Int} (hF : Full L mem p ts) (hl : ts.length ≤ 4) (h : ∀ k : Int, 0 ≤ k → k ≤ 5 → ld mem' (L.packet p k) = ld mem (L.packet p k)) : Full L mem' p ts := by
  refine ⟨(h 0 (by omega) (by omega)).trans hF.1, fun k hk => ?_⟩
  rw [← hF.2 k hk, task_eq _ _ _ (by omega)]
  exact h _ (by omega) (by omega)
theorem PMInv.other {j : Nat} {m : PM} (h : PMInv L mem loc j m) (I : PkInv L mem loc sp pl) (F : PFr L mem mem' loc loc' i) (hij : j ≠ i) :
    PMInv L mem' loc' j m := by
  have hown : ∀ x, (1 ≤ x ∧ x ≤ L.many) → loc x = .act j → loc' x = .act j ∧ ∀ k : Int, 0 ≤ k → k ≤ 5 → ld mem' (L.packet x k) = ld mem (L.packet x k) := fun x hx hl => by
    have hne : loc x ≠ .act i := by rw [hl]; intro e; cases e; exact hij rfl
    refine ⟨?_, fun k k0 k1 => F.own I.geo hx.1 hx.2 k0 k1 hne⟩
    rcases F.loc x with h | h
    · rw [h]; exact hl
    · exact absurd hl (h j hij).1
  have c5 : ld mem' 5 = ld mem 5 ∧ (∀ x ∈ sp, ld mem' (L.link x) = ld mem (L.link x)) ∨ wHi (ld mem' 5) = wHi (ld mem 5) + 1 := by
    rcases F.v5 with e | e
    · refine .inl ⟨e, fun x hx => ?_⟩
      obtain ⟨hv, hl⟩ := (I.lsp x).1 hx
      exact F.own I.geo hv.1 hv.2 (by omega) (by omega) (by rw [hl]; intro e; cases e)
    · exact .inr e
  have c4 : ld mem' 4 = ld mem 4 ∧ (∀ x ∈ pl, ld mem' (L.link x) = ld mem (L.link x)) ∨ wHi (ld mem' 4) = wHi (ld mem 4) + 1 := by
    rcases F.v4 with e | e
    · refine .inl ⟨e, fun x hx => ?_⟩
      obtain ⟨hv, hl⟩ := (I.lpl x).1 hx
      exact F.own I.geo hv.1 hv.2 (by omega) (by omega) (by rw [hl]; intro e; cases e)
    · exact .inr e
  refine ⟨h.pc, h.words, h.len, fun hp => ?_, fun hp => ?_, h.h2j, h.h3j, fun hp => ?_, fun hp hx => ?_⟩
  · obtain ⟨a, b, c⟩ := h.h1 hp
    exact ⟨a.other I.csp c5 (by omega), b, c⟩
  · obtain ⟨a, b, c, d⟩ := h.h2 hp
    obtain ⟨b', hw⟩ := hown _ a b
    refine ⟨a, b', fun k hk => ?_, d⟩
    have hk4 : k < 4 := by
      have := h.len
      rcases hp with hp | hp
      · have := h.h2j hp; omega
      · have := h.h3j hp; omega
    rw [← c k hk, task_eq _ _ _ (by omega)]
    exact hw _ (by omega) (by omega)
  · obtain ⟨a, b⟩ := h.h4 hp
    refine ⟨a, fun hx => ?_⟩
    obtain ⟨b1, b2, b3⟩ := b hx
    obtain ⟨b', hw⟩ := hown _ b1 b2
    refine ⟨b1, b', ?_⟩
    rcases b3 with ⟨b3, b4, b5⟩ | ⟨b3, b4⟩
    · exact .inl ⟨b3.other I.cpl c4 (fun _ => hw 1 (by omega) (by omega)), b4.other h.len hw, b5⟩
    · exact .inr ⟨b3.other I.csp c5 (fun _ => hw 1 (by omega) (by omega)), b4⟩
  · obtain ⟨a, b⟩ := h.h4p hp hx
    exact ⟨a.other I.cpl c4 (by omega), b⟩

/-- What a step of actor i's machine does. -/
inductive PMOut (L : Lay) (mem : List Int) (loc : Int → Loc) (sp pl : List Int) (i : Nat) (m : PM) (mem' : List Int) (m' : PM) : Prop
  | work (loc' : Int → Loc) (sp' : List Int) (hpc : m'.pc ≠ 0) (ht : m'.tasks = m.tasks) (hpool : ∀ x, loc' x = .pool ↔ loc x = .pool) (I : PkInv L mem' loc' sp' pl) (inv : PMInv L mem' loc' i m') (F : PFr L mem mem' loc loc' i)
      (hown : ∀ x, loc' x = .act i → loc x = .act i ∨ m.pc = 1) (hsp : sp' = sp ∧ (m'.pc = 1 ↔ m.pc = 1) ∨ m.pc = 1 ∧ m'.pc = 2 ∧ sp.length = sp'.length + 1) (hpush : m.pc = 4 ∧ m.x.pc ≤ 3 → m'.pc = 4 ∧ m'.x.pc ≤ 3 ∧ m'.x.item = m.x.item) (hpop : m.pc = 4 ∧ 3 < m.x.pc → m'.pc = 4 ∧ 3 < m'.x.pc)
  | put (p : Int) (loc' : Int → Loc) (hpc : m'.pc = 0) (hp : m'.p = p) (hne : m.tasks ≠ []) (hf : Full L mem' p m.tasks) (hv : 1 ≤ p ∧ p ≤ L.many) (hl : loc p = .act i) (hl' : loc' = setLoc loc p .pool) (hm : m.pc = 4 ∧ m.x.pc ≤ 3 ∧ m.x.item = p) (ho : MInv L.link 4 mem m.x) (I : PkInv L mem' loc' sp (p :: pl)) (F : PFr L mem mem' loc loc' i)
  | took (p : Int) (pl' : List Int) (loc' : Int → Loc) (hpc : m'.pc = 0) (hp : m'.p = p) (hv : 1 ≤ p ∧ p ≤ L.many) (hpl : pl = p :: pl') (hl' : loc' = setLoc loc p (.act i)) (hm : m.pc = 4 ∧ 3 < m.x.pc) (I : PkInv L mem' loc' sp pl') (F : PFr L mem mem' loc loc' i)
  | none (hpc : m'.pc = 0) (hp : m'.p = 0) (hpl : pl = []) (hmem : mem' = mem) (hm : m.pc = 4 ∧ 3 < m.x.pc)
  | back (p : Int) (loc' : Int → Loc) (hpc : m'.pc = 0) (hp : m'.p = p) (hv : 1 ≤ p ∧ p ≤ L.many) (hl : loc p = .act i) (hl' : loc' = setLoc loc p .spare) (hm : m.pc = 4 ∧ m.x.pc ≤ 3 ∧ m.x.item = p) (ho : MInv L.link 5 mem m.x ∧ m.tasks = []) (I : PkInv L mem' loc' (p :: sp) pl) (F : PFr L mem mem' loc loc' i)

/-- A word of a packet of this actor's is changed. -/
theorem PkInv.own (I : PkInv L mem loc sp pl) {p k v : Int} (hp : 1 ≤ p ∧ p ≤ L.many) (hl : loc p = .act i) (k0 : 0 ≤ k) (k1 : k ≤ 5) (hv : U64 v) :
    PkInv L (pt mem (L.packet p k) v) loc sp pl ∧ PFr L mem (pt mem (L.packet p k) v) loc loc i := by
  have ha := I.geo.at hp.1 hp.2 k0 k1
  have h5 : ld (pt mem (L.packet p k) v) 5 = ld mem 5 := ld_pt_ne (by omega)
  have h4 : ld (pt mem (L.packet p k) v) 4 = ld mem 4 := ld_pt_ne (by omega)
  have hlk : ∀ x, (1 ≤ x ∧ x ≤ L.many) → loc x ≠ .act i → ld (pt mem (L.packet p k) v) (L.link x) = ld mem (L.link x) := fun x hx hne => by
    refine ld_pt_ne fun e => ?_
    obtain ⟨rfl, _⟩ := I.geo.inj hp.1 hp.2 k0 k1 hx.1 hx.2 (by omega) (by omega) e
    exact hne hl
  refine ⟨⟨by rw [pt_length]; exact I.geo, I.wds.pt hv, ?_, ?_, I.nsp, I.npl, I.lsp, I.lpl⟩, ⟨by simp, fun a => ?_, .inl h5, .inl h4, fun _ => .inl rfl⟩⟩
  · rw [h5]
    exact I.csp.congr fun y hy => hlk y ((I.lsp y).1 hy).1 (by rw [((I.lsp y).1 hy).2]; intro e; cases e)
  · rw [h4]
    exact I.cpl.congr fun y hy => hlk y ((I.lpl y).1 hy).1 (by rw [((I.lpl y).1 hy).2]; intro e; cases e)
  · by_cases e : L.packet p k = a
    · exact .inr (.inr (.inr ⟨p, k, hp, hl, k0, k1, e.symm⟩))
    · exact .inl (ld_pt_ne e)

section
variable {mem' : List Int} {x lnk : Int}
theorem turned (I : PkInv L mem loc sp pl) {hd : Int} (h45 : hd = 4 ∨ hd = 5) (lu : U32 lnk) (hm : mem' = pt mem hd (wTurn (ld mem hd) lnk)) (hv : wHi (ld mem hd) + 1 < 4294967296) :
    mem'.length = mem.length ∧ Wds mem' ∧ (∀ a, a ≠ hd → ld mem' a = ld mem a) ∧ wHi (ld mem' hd) = wHi (ld mem hd) + 1 ∧
    (∀ y, 1 ≤ y → y ≤ L.many → ∀ k, 0 ≤ k → k ≤ 5 → ld mem' (L.packet y k) = ld mem (L.packet y k)) := by
  have G := I.geo.geo hd h45
  refine ⟨by rw [hm, pt_length], by rw [hm]; exact I.wds.pt (wTurn_u64 lu), fun a ha => by rw [hm]; exact ld_pt_ne (Ne.symm ha), by rw [hm, ld_pt_same G.hd0 G.hd1, wHi_turn lu (I.wds.ld _) hv], fun y y1 y2 k k0 k1 => ?_⟩
  have := I.geo.at y1 y2 k0 k1
  rw [hm]; exact ld_pt_ne (by omega)
theorem nact_spare {j : Nat} : Loc.spare ≠ .act j := fun h => by cases h
theorem nact_pool {j : Nat} : Loc.pool ≠ .act j := fun h => by cases h
theorem nact_ne {i j : Nat} (h : j ≠ i) : Loc.act i ≠ .act j := fun e => by cases e; exact h rfl
theorem PkInv.pop5 (I : PkInv L mem loc sp pl) {l' : List Int} (hl : sp = x :: l') (lu : U32 lnk) (hm : mem' = pt mem 5 (wTurn (ld mem 5) lnk)) (hC : Chain L.many L.link mem' (wLo (ld mem' 5)) l') (hv : wHi (ld mem 5) + 1 < 4294967296) :
    PkInv L mem' (setLoc loc x (.act i)) l' pl ∧ PFr L mem mem' loc (setLoc loc x (.act i)) i ∧ (1 ≤ x ∧ x ≤ L.many) ∧ loc x = .spare := by
  obtain ⟨t1, t2, t3, t4, t5⟩ := turned I (.inr rfl) lu hm hv
  obtain ⟨hval, hlo⟩ := (I.lsp x).1 (by rw [hl]; simp)
  have hnd := I.nsp
  rw [hl, List.nodup_cons] at hnd
  refine ⟨⟨by rw [t1]; exact I.geo, t2, hC, ?_, hnd.2, I.npl, fun y => ?_, fun y => ?_⟩, ⟨t1, fun a => ?_, .inr t4, .inl (t3 4 (by omega)), fun y => ?_⟩, hval, hlo⟩
  · rw [t3 4 (by omega)]
    exact I.cpl.congr fun y hy => t5 y ((I.lpl y).1 hy).1.1 ((I.lpl y).1 hy).1.2 1 (by omega) (by omega)
  · by_cases e : y = x
    · subst e; rw [setLoc_same]; simp [hnd.1]
    · rw [setLoc_ne e, ← I.lsp y, hl]; simp [e]
  · by_cases e : y = x
    · subst e
      rw [setLoc_same]
      constructor
      · intro hy; have := ((I.lpl _).1 hy).2; rw [hlo] at this; cases this
      · rintro ⟨_, h⟩; cases h
    · rw [setLoc_ne e]; exact I.lpl y
  · by_cases e : a = 5
    · exact .inr (.inr (.inl e))
    · exact .inl (t3 a e)
  · by_cases e : y = x
    · subst e
      exact .inr fun j hj => ⟨by rw [hlo]; exact nact_spare, by rw [setLoc_same]; exact nact_ne hj⟩
    · exact .inl (setLoc_ne e)
theorem PkInv.pop4 (I : PkInv L mem loc sp pl) {l' : List Int} (hl : pl = x :: l') (lu : U32 lnk) (hm : mem' = pt mem 4 (wTurn (ld mem 4) lnk)) (hC : Chain L.many L.link mem' (wLo (ld mem' 4)) l') (hv : wHi (ld mem 4) + 1 < 4294967296) :
    PkInv L mem' (setLoc loc x (.act i)) sp l' ∧ PFr L mem mem' loc (setLoc loc x (.act i)) i ∧ (1 ≤ x ∧ x ≤ L.many) ∧ loc x = .pool := by
  obtain ⟨t1, t2, t3, t4, t5⟩ := turned I (.inl rfl) lu hm hv
  obtain ⟨hval, hlo⟩ := (I.lpl x).1 (by rw [hl]; simp)
  have hnd := I.npl
  rw [hl, List.nodup_cons] at hnd
  refine ⟨⟨by rw [t1]; exact I.geo, t2, ?_, hC, I.nsp, hnd.2, fun y => ?_, fun y => ?_⟩, ⟨t1, fun a => ?_, .inl (t3 5 (by omega)), .inr t4, fun y => ?_⟩, hval, hlo⟩
  · rw [t3 5 (by omega)]
    exact I.csp.congr fun y hy => t5 y ((I.lsp y).1 hy).1.1 ((I.lsp y).1 hy).1.2 1 (by omega) (by omega)
  · by_cases e : y = x
    · subst e
      rw [setLoc_same]
      constructor
      · intro hy; have := ((I.lsp _).1 hy).2; rw [hlo] at this; cases this
      · rintro ⟨_, h⟩; cases h
    · rw [setLoc_ne e]; exact I.lsp y
  · by_cases e : y = x
    · subst e; rw [setLoc_same]; simp [hnd.1]
    · rw [setLoc_ne e, ← I.lpl y, hl]; simp [e]
  · by_cases e : a = 4
    · exact .inr (.inl e)
    · exact .inl (t3 a e)
  · by_cases e : y = x
    · subst e
      exact .inr fun j hj => ⟨by rw [hlo]; exact nact_pool, by rw [setLoc_same]; exact nact_ne hj⟩
    · exact .inl (setLoc_ne e)
theorem PkInv.push5 (I : PkInv L mem loc sp pl) (hx : 1 ≤ x ∧ x ≤ L.many) (hlo : loc x = .act i) (lu : U32 lnk) (hm : mem' = pt mem 5 (wTurn (ld mem 5) lnk)) (hC : Chain L.many L.link mem' (wLo (ld mem' 5)) (x :: sp)) (hv : wHi (ld mem 5) + 1 < 4294967296) :
    PkInv L mem' (setLoc loc x .spare) (x :: sp) pl ∧ PFr L mem mem' loc (setLoc loc x .spare) i := by
  obtain ⟨t1, t2, t3, t4, t5⟩ := turned I (.inr rfl) lu hm hv
  have hns : x ∉ sp := fun h => by have := ((I.lsp x).1 h).2; rw [hlo] at this; cases this
  refine ⟨⟨by rw [t1]; exact I.geo, t2, hC, ?_, List.nodup_cons.2 ⟨hns, I.nsp⟩, I.npl, fun y => ?_, fun y => ?_⟩, ⟨t1, fun a => ?_, .inr t4, .inl (t3 4 (by omega)), fun y => ?_⟩⟩
  · rw [t3 4 (by omega)]
    exact I.cpl.congr fun y hy => t5 y ((I.lpl y).1 hy).1.1 ((I.lpl y).1 hy).1.2 1 (by omega) (by omega)
  · by_cases e : y = x
    · subst e; rw [setLoc_same]; simp [hx]
    · rw [setLoc_ne e, ← I.lsp y]; simp [e]
  · by_cases e : y = x
    · subst e
      rw [setLoc_same]
      constructor
      · intro hy; have := ((I.lpl _).1 hy).2; rw [hlo] at this; cases this
      · rintro ⟨_, h⟩; cases h
    · rw [setLoc_ne e]; exact I.lpl y
  · by_cases e : a = 5
    · exact .inr (.inr (.inl e))
    · exact .inl (t3 a e)
  · by_cases e : y = x
    · subst e
      exact .inr fun j hj => ⟨by rw [hlo]; exact nact_ne hj, by rw [setLoc_same]; exact nact_spare⟩
    · exact .inl (setLoc_ne e)
theorem PkInv.push4 (I : PkInv L mem loc sp pl) (hx : 1 ≤ x ∧ x ≤ L.many) (hlo : loc x = .act i) (lu : U32 lnk) (hm : mem' = pt mem 4 (wTurn (ld mem 4) lnk)) (hC : Chain L.many L.link mem' (wLo (ld mem' 4)) (x :: pl)) (hv : wHi (ld mem 4) + 1 < 4294967296) :
    PkInv L mem' (setLoc loc x .pool) sp (x :: pl) ∧ PFr L mem mem' loc (setLoc loc x .pool) i := by
  obtain ⟨t1, t2, t3, t4, t5⟩ := turned I (.inl rfl) lu hm hv
  have hns : x ∉ pl := fun h => by have := ((I.lpl x).1 h).2; rw [hlo] at this; cases this
  refine ⟨⟨by rw [t1]; exact I.geo, t2, ?_, hC, I.nsp, List.nodup_cons.2 ⟨hns, I.npl⟩, fun y => ?_, fun y => ?_⟩, ⟨t1, fun a => ?_, .inl (t3 5 (by omega)), .inr t4, fun y => ?_⟩⟩
  · rw [t3 5 (by omega)]
    exact I.csp.congr fun y hy => t5 y ((I.lsp y).1 hy).1.1 ((I.lsp y).1 hy).1.2 1 (by omega) (by omega)
  · by_cases e : y = x
    · subst e
      rw [setLoc_same]
      constructor
      · intro hy; have := ((I.lsp _).1 hy).2; rw [hlo] at this; cases this
      · rintro ⟨_, h⟩; cases h
    · rw [setLoc_ne e]; exact I.lsp y
  · by_cases e : y = x
    · subst e; rw [setLoc_same]; simp [hx]
    · rw [setLoc_ne e, ← I.lpl y]; simp [e]
  · by_cases e : a = 4
    · exact .inr (.inl e)
    · exact .inl (t3 a e)
  · by_cases e : y = x
    · subst e
      exact .inr fun j hj => ⟨by rw [hlo]; exact nact_ne hj, by rw [setLoc_same]; exact nact_pool⟩
    · exact .inl (setLoc_ne e)
end

theorem pm_out {σ : St} {m : PM} (I : PkInv L σ.mem loc sp pl) (h : PMInv L σ.mem loc i m) (hpc : m.pc ≠ 0) (hv4 : wHi (ld σ.mem 4) + 1 < 4294967296) (hv5 : wHi (ld σ.mem 5) + 1 < 4294967296) :
    PMOut L σ.mem loc sp pl i m (PM.step L σ m).1.mem (PM.step L σ m).2 := by
  have G5 := I.geo.geo 5 (.inr rfl)
  have G4 := I.geo.geo 4 (.inl rfl)
  have hmany := I.geo.many
  obtain ⟨tasks, j, p, x, pc⟩ := m
  obtain ⟨k0, k1, k2, k3, k4, k5, k6, k7, k8⟩ := h
  simp only at k0 k1 k2 k3 k4 k5 k6 k7 k8 hpc
  have hcase : pc = 1 ∨ pc = 2 ∨ pc = 3 ∨ pc = 4 := by omega
  rcases hcase with rfl | rfl | rfl | rfl
  · -- a spare one is taken
    obtain ⟨a, b, hj0, hne⟩ := k3 rfl
    have ho := sm_out G5 I.wds I.csp a (by omega) (by omega) hv5
    have hstep : PM.step L σ ⟨tasks, j, p, x, 1⟩ = (let q := SM.step L.link σ x
      if q.2.pc = 0 then
        if q.2.item = 0 then (q.1, { tasks, j, p := 0, x := popSM 5, pc := 1 }) else (q.1, { tasks, j, p := q.2.item, x := q.2, pc := 2 })
      else (q.1, { tasks, j, p, x := q.2, pc := 1 })) := rfl
    rw [hstep]
    generalize SM.step L.link σ x = q at ho ⊢
    obtain ⟨σ', x'⟩ := q
    simp only at ho ⊢
    cases ho with
    | quiet hm hx hk hi inv =>
      simp only [hx, if_false]
      refine .work loc sp (by simp) rfl (fun _ => .rfl) (by rw [hm]; exact I) ⟨by simp, k1, k2, fun _ => ⟨inv, by show 4 ≤ x'.pc; omega, hj0, hne⟩, by simp, by simp, by simp, by simp, by simp⟩ (by rw [hm]; exact PFr.refl _ _ _ _) (fun _ h => .inl h) (.inl ⟨rfl, by simp⟩) (by simp) (by simp)
    | linked hp _ _ _ _ => omega
    | pushed hp _ _ _ _ => omega
    | popped l' hp lu hl hm hx hi hC =>
      obtain ⟨hI, hF, hit, hlo⟩ := I.pop5 (i := i) hl lu hm hC hv5
      have hiz : ¬ x'.item = 0 := by rw [hi]; omega
      simp only [hx, if_true, hiz, if_false]
      refine .work _ l' (by simp) rfl (fun y => ?_) hI ⟨by simp, k1, k2, by simp, fun _ => ?_, fun _ => ?_, by simp, by simp, by simp⟩ hF (fun _ _ => .inr rfl) (.inr ⟨rfl, rfl, by rw [hl]; simp⟩) (by simp) (by simp)
      · by_cases e : y = x.item
        · subst e; rw [setLoc_same, hlo]; constructor <;> (intro h; cases h)
        · rw [setLoc_ne e]
      · simp only [hi]
        exact ⟨hit, setLoc_same _ _ _, fun k hk => by omega, hne⟩
      · simp only [hj0]; exact List.length_pos_iff.2 hne
    | empty hp hl hm hx hi =>
      simp only [hx, hi, if_true]
      refine .work loc sp (by simp) rfl (fun _ => .rfl) (by rw [hm]; exact I) ⟨by simp, k1, k2, fun _ => ⟨⟨rfl, by simp [popSM], by simp [popSM], by simp [popSM], by simp [popSM], by simp [popSM], by simp [popSM]⟩, by simp [popSM], hj0, hne⟩, by simp, by simp, by simp, by simp, by simp⟩ (by rw [hm]; exact PFr.refl _ _ _ _) (fun _ h => .inl h) (.inl ⟨rfl, by simp⟩) (by simp) (by simp)
  · -- a task is filled in
    obtain ⟨a, b, c, hne⟩ := k4 (.inl rfl)
    have hj := k5 rfl
    have hw : U64 (tasks.getD j 0) := k1 _ (getD_mem _ _ hj)
    have et : L.task p j = L.packet p (2 + j) := task_eq _ _ _ (by omega)
    obtain ⟨hI, hF⟩ := I.own a b (k := 2 + j) (v := tasks.getD j 0) (by omega) (by omega) hw
    have hat := I.geo.at a.1 a.2 (k := 2 + (j : Int)) (by omega) (by omega)
    have hst : ∀ k : Nat, k < j + 1 → ld (pt σ.mem (L.packet p (2 + j)) (tasks.getD j 0)) (L.task p k) = tasks.getD k 0 := fun k hk => by
      rw [task_eq _ _ _ (by omega)]
      by_cases e : k = j
      · subst e; exact ld_pt_same (by omega) hat.2.2
      · rw [ld_pt_ne, ← c k (by omega), task_eq _ _ _ (by omega)]
        intro h
        have := (I.geo.inj a.1 a.2 (by omega) (by omega) a.1 a.2 (by omega) (by omega) h).2
        omega
    simp only [PM.step, St.put, et]
    refine .work loc sp (by simp only; split <;> simp) rfl (fun _ => .rfl) hI ⟨by simp only; split <;> simp, k1, k2, (fun h => by simp only at h; split at h <;> cases h), fun _ => ⟨a, b, hst, hne⟩, fun h => ?_, fun h => ?_, (fun h => by simp only at h; split at h <;> cases h), (fun h => by simp only at h; split at h <;> cases h)⟩ hF (fun _ h => .inl h) (.inl ⟨rfl, by simp only; split <;> simp⟩) (by simp) (by simp)
    · simp only at h ⊢
      split at h
      · cases h
      · omega
    · simp only at h ⊢
      split at h
      · assumption
      · cases h
  · -- how many there are
    obtain ⟨a, b, c, hne⟩ := k4 (.inr rfl)
    have hj := k6 rfl
    have hw : U64 (tasks.length : Int) := ⟨by omega, by omega⟩
    have hat := I.geo.at a.1 a.2 (k := 0) (by omega) (by omega)
    obtain ⟨hI, hF⟩ := I.own a b (k := 0) (v := tasks.length) (by omega) (by omega) hw
    simp only [PM.step, St.put]
    refine .work loc sp (by simp) rfl (fun _ => .rfl) hI ⟨by simp, k1, k2, by simp, by simp, by simp, by simp, fun _ => ⟨by simp [pushSM], fun _ => ⟨a, b, .inl ⟨⟨rfl, by simp [pushSM], by simp [pushSM], by simp [pushSM], by simp [pushSM], by simp [pushSM], by simp [pushSM]⟩, ⟨?_, fun k hk => ?_⟩, hne⟩⟩⟩, fun _ h => by simp [pushSM] at h⟩ hF (fun _ h => .inl h) (.inl ⟨rfl, by simp⟩) (by simp) (by simp)
    · have e : L.manyAt p = L.packet p 0 := rfl
      simp only [pushSM, e]
      exact ld_pt_same (by omega) hat.2.2
    · have e : L.manyAt p = L.packet p 0 := rfl
      simp only at hk
      simp only [pushSM, e]
      rw [← c k (by omega), task_eq _ _ _ (by omega)]
      refine ld_pt_ne fun h => ?_
      have := (I.geo.inj a.1 a.2 (by omega) (by omega) a.1 a.2 (by omega) (by omega) h).2
      omega
  · -- the last stack
    obtain ⟨hx0, hpush⟩ := k7 rfl
    have hpop := k8 rfl
    clear k3 k4 k5 k6 k7 k8
    have hstep : PM.step L σ ⟨tasks, j, p, x, 4⟩ = (let q := SM.step L.link σ x
      if q.2.pc = 0 then (q.1, { tasks, j, p := q.2.item, x := q.2, pc := 0 }) else (q.1, { tasks, j, p, x := q.2, pc := 4 })) := rfl
    rw [hstep]
    by_cases h3 : x.pc ≤ 3
    · obtain ⟨a, b, c⟩ := hpush h3
      have iu : U32 x.item := ⟨by omega, by omega⟩
      rcases c with ⟨c, hfull, hne⟩ | ⟨c, ht⟩
      · have hn : x.item ∉ pl := fun h => by have := ((I.lpl _).1 h).2; rw [b] at this; cases this
        have ho := sm_out G4 I.wds I.cpl c hx0 (fun _ => ⟨a.1, a.2, hn⟩) hv4
        generalize SM.step L.link σ x = q at ho ⊢
        obtain ⟨σ', x'⟩ := q
        simp only at ho ⊢
        cases ho with
        | quiet hm hx hk hi inv =>
          simp only [hx, if_false]
          have hi' := hi h3
          refine .work loc sp (by simp) rfl (fun _ => .rfl) (by rw [hm]; exact I) ⟨by simp, k1, k2, by simp, by simp, by simp, by simp, fun _ => ⟨hx, fun _ => ⟨by simp only [hi']; exact a, by simp only [hi']; exact b, .inl ⟨inv, by simp only [hi', hm]; exact hfull, hne⟩⟩⟩, fun _ h => absurd (hk.1 h3) (by simp only at h; omega)⟩ (by rw [hm]; exact PFr.refl _ _ _ _) (fun _ h => .inl h) (.inl ⟨rfl, by simp⟩) (fun _ => ⟨rfl, hk.1 h3, hi'⟩) (fun h => by simp only at h; omega)
        | linked hp hm hx hi inv =>
          have hx' : ¬ x'.pc = 0 := by omega
          simp only [hx', if_false]
          have lu : U64 x.link := by
            rw [c.p2 (.inl hp)]
            have := wLo_u32 x.h
            exact ⟨this.1, by have := this.2; omega⟩
          obtain ⟨hI, hF⟩ := I.own a b (k := 1) (v := x.link) (by omega) (by omega) lu
          have hm' : σ'.mem = pt σ.mem (L.packet x.item 1) x.link := hm
          rw [← hm'] at hI hF
          have hfull' : Full L σ'.mem x.item tasks := by
            refine ⟨?_, fun k hk => ?_⟩
            · rw [← hfull.1, hm']
              refine ld_pt_ne fun h => ?_
              have := (I.geo.inj a.1 a.2 (by omega) (by omega) a.1 a.2 (by omega) (by omega) h).2
              omega
            · rw [← hfull.2 k hk, hm', task_eq _ _ _ (by omega)]
              refine ld_pt_ne fun h => ?_
              have := (I.geo.inj a.1 a.2 (by omega) (by omega) a.1 a.2 (by omega) (by omega) h).2
              omega
          refine .work loc sp (by simp) rfl (fun _ => .rfl) hI ⟨by simp, k1, k2, by simp, by simp, by simp, by simp, fun _ => ⟨hx', fun _ => ⟨by simp only [hi]; exact a, by simp only [hi]; exact b, .inl ⟨inv, by simp only [hi]; exact hfull', hne⟩⟩⟩, fun _ h => by simp only at h; omega⟩ hF (fun _ h => .inl h) (.inl ⟨rfl, by simp⟩) (fun _ => ⟨rfl, by simp only; omega, hi⟩) (fun h => by simp only at h; omega)
        | pushed hp hm hx hi hC =>
          simp only [hx, if_true]
          obtain ⟨hI, hF⟩ := I.push4 (i := i) a b iu hm hC hv4
          have h5 := (turned I (.inl rfl) iu hm hv4).2.2.2.2
          exact .put x.item _ rfl hi hne (hfull.other k2 (fun k h0 h1 => h5 _ a.1 a.2 k h0 h1)) a b rfl ⟨rfl, h3, rfl⟩ c hI hF
        | popped l' hp _ _ _ _ _ _ => omega
        | empty hp _ _ _ _ => omega
      · have hn : x.item ∉ sp := fun h => by have := ((I.lsp _).1 h).2; rw [b] at this; cases this
        have ho := sm_out G5 I.wds I.csp c hx0 (fun _ => ⟨a.1, a.2, hn⟩) hv5
        generalize SM.step L.link σ x = q at ho ⊢
        obtain ⟨σ', x'⟩ := q
        simp only at ho ⊢
        cases ho with
        | quiet hm hx hk hi inv =>
          simp only [hx, if_false]
          have hi' := hi h3
          refine .work loc sp (by simp) rfl (fun _ => .rfl) (by rw [hm]; exact I) ⟨by simp, k1, k2, by simp, by simp, by simp, by simp, fun _ => ⟨hx, fun _ => ⟨by simp only [hi']; exact a, by simp only [hi']; exact b, .inr ⟨inv, ht⟩⟩⟩, fun _ h => absurd (hk.1 h3) (by simp only at h; omega)⟩ (by rw [hm]; exact PFr.refl _ _ _ _) (fun _ h => .inl h) (.inl ⟨rfl, by simp⟩) (fun _ => ⟨rfl, hk.1 h3, hi'⟩) (fun h => by simp only at h; omega)
        | linked hp hm hx hi inv =>
          have hx' : ¬ x'.pc = 0 := by omega
          simp only [hx', if_false]
          have lu : U64 x.link := by
            rw [c.p2 (.inl hp)]
            have := wLo_u32 x.h
            exact ⟨this.1, by have := this.2; omega⟩
          obtain ⟨hI, hF⟩ := I.own a b (k := 1) (v := x.link) (by omega) (by omega) lu
          have hm' : σ'.mem = pt σ.mem (L.packet x.item 1) x.link := hm
          rw [← hm'] at hI hF
          refine .work loc sp (by simp) rfl (fun _ => .rfl) hI ⟨by simp, k1, k2, by simp, by simp, by simp, by simp, fun _ => ⟨hx', fun _ => ⟨by simp only [hi]; exact a, by simp only [hi]; exact b, .inr ⟨inv, ht⟩⟩⟩, fun _ h => by simp only at h; omega⟩ hF (fun _ h => .inl h) (.inl ⟨rfl, by simp⟩) (fun _ => ⟨rfl, by simp only; omega, hi⟩) (fun h => by simp only at h; omega)
        | pushed hp hm hx hi hC =>
          simp only [hx, if_true]
          obtain ⟨hI, hF⟩ := I.push5 (i := i) a b iu hm hC hv5
          exact .back x.item _ rfl hi a b rfl ⟨rfl, h3, rfl⟩ ⟨c, ht⟩ hI hF
        | popped l' hp _ _ _ _ _ _ => omega
        | empty hp _ _ _ _ => omega
    · obtain ⟨c, ht⟩ := hpop (by omega)
      have ho := sm_out G4 I.wds I.cpl c hx0 (by omega) hv4
      generalize SM.step L.link σ x = q at ho ⊢
      obtain ⟨σ', x'⟩ := q
      simp only at ho ⊢
      cases ho with
      | quiet hm hx hk hi inv =>
        simp only [hx, if_false]
        refine .work loc sp (by simp) rfl (fun _ => .rfl) (by rw [hm]; exact I) ⟨by simp, k1, k2, by simp, by simp, by simp, by simp, fun _ => ⟨hx, fun h => by simp only at h; omega⟩, fun _ _ => ⟨inv, ht⟩⟩ (by rw [hm]; exact PFr.refl _ _ _ _) (fun _ h => .inl h) (.inl ⟨rfl, by simp⟩) (fun h => by simp only at h; omega) (fun _ => ⟨rfl, by simp only; omega⟩)
      | linked hp _ _ _ _ => omega
      | pushed hp _ _ _ _ => omega
      | popped l' hp lu hl hm hx hi hC =>
        simp only [hx, if_true]
        obtain ⟨hI, hF, hit, hlo⟩ := I.pop4 (i := i) hl lu hm hC hv4
        exact .took x.item l' _ rfl hi hit hl rfl ⟨rfl, by simp only; omega⟩ hI hF
      | empty hp hl hm hx hi =>
        simp only [hx, if_true]
        exact .none rfl hi hl hm ⟨rfl, by simp only; omega⟩
end
end Go.Proofs.Ytcgnficlcgmffaa
