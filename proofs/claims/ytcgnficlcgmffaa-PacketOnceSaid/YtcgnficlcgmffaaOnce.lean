/-
  Law PacketOnce: three that put packets, take them and put them back (plain).
-/
import Derived.Test.YtcgnficlcgmffaaRank
import Derived.Test.YtcgnficlcgmffaaPkMore
import Derived.Test.YtcgnficlcgmffaaWalkM
import Derived.Test.YtcgnficlcgmffaaFirst
namespace Go.Proofs.Ytcgnficlcgmffaa
open Go.RowKit

structure OA where
  kind : Nat
  m : PM
structure OS where
  mem : List Int
  w : Nat → Option OA
  has : Nat → Int
  put : Nat
  n : Nat
  seen : List Int
def upd {α : Type} (f : Nat → α) (k : Nat) (v : α) : Nat → α := fun j => if j = k then v else f j
theorem upd_same {α : Type} (f : Nat → α) (k : Nat) (v : α) : upd f k v k = v := by simp [upd]
theorem upd_ne {α : Type} {f : Nat → α} {j k : Nat} {v : α} (h : j ≠ k) : upd f k v j = f j := by simp [upd, h]
namespace OS
variable (L : Lay) (acts picks : List Int)
/-- Something is begun. -/
def begin (k : Nat) (S : OS) : OS :=
  if 0 < S.has k then { S with n := S.n + 1, w := upd S.w k (some ⟨2, PM.back L (S.has k)⟩) }
  else if acts.getD ((S.n + 1) % acts.length) 0 % 2 = 0 ∧ (S.put : Int) < L.many - 3 then { S with n := S.n + 1, put := S.put + 1, w := upd S.w k (some ⟨0, PM.put [(S.put : Int) + 1]⟩) }
  else { S with n := S.n + 1, w := upd S.w k (some ⟨1, PM.take⟩) }
/-- A step. -/
def act (k : Nat) (S : OS) (a : OA) : OS :=
  let q := PM.on L (S.mem, a.m)
  if q.2.pc ≠ 0 then { S with mem := q.1, w := upd S.w k (some ⟨a.kind, q.2⟩) }
  else if a.kind = 2 then { S with mem := q.1, w := upd S.w k none, has := upd S.has k 0 }
  else if a.kind = 1 ∧ 0 < q.2.p then { S with mem := q.1, w := upd S.w k none, has := upd S.has k q.2.p, seen := S.seen.set (ld q.1 (L.task q.2.p 0)).toNat (S.seen.getD (ld q.1 (L.task q.2.p 0)).toNat 0 + 1) }
  else { S with mem := q.1, w := upd S.w k none }
def who (i : Nat) : Nat := if i < picks.length then (picks.getD i 0 % 3).toNat else i % 3
def round (i : Nat) (S : OS) : OS :=
  let k := who picks i
  match S.w k with
  | some a => act L k S a
  | none => if picks.length ≤ i then S else let S' := begin L acts k S; match S'.w k with
    | some a => act L k S' a
    | none => S'
def run (mem : List Int) : Nat → OS
  | 0 => ⟨mem, fun _ => none, fun _ => 0, 0, 0, List.replicate 400 0⟩
  | i + 1 => round L acts picks i (run mem i)

/-! ### What holds -/
/-- How many of three. -/
def sum3 (f : Nat → Nat) : Nat := f 0 + f 1 + f 2
def isPut (t : Int) : Option OA → Nat
  | some a => if a.kind = 0 ∧ a.m.tasks = [t] then 1 else 0
  | none => 0
def isPop : Option OA → Nat
  | some a => if a.m.pc = 1 then 1 else 0
  | none => 0
def inPool (mem : List Int) (pl : List Int) (t : Int) : Nat := (pl.filter fun p => decide (ld mem (L.task p 0) = t)).length

structure AInv (mem : List Int) (loc : Int → Loc) (put : Nat) (h : Int) (k : Nat) (a : OA) : Prop where
  inv : PMInv L mem loc k a.m
  pc : a.m.pc ≠ 0
  kind : a.kind = 0 ∧ (∃ t : Int, 1 ≤ t ∧ t ≤ put ∧ a.m.tasks = [t]) ∧ h = 0 ∨ a.kind = 1 ∧ a.m.tasks = [] ∧ a.m.pc = 4 ∧ 3 < a.m.x.pc ∧ h = 0 ∨ a.kind = 2 ∧ a.m.tasks = [] ∧ a.m.pc = 4 ∧ a.m.x.pc ≤ 3 ∧ a.m.x.item = h
structure Inv (S : OS) (v : Int) : Prop where
  ex : ∃ loc sp pl, PkInv L S.mem loc sp pl ∧ (∀ k, k < 3 → ∀ a, S.w k = some a → AInv L S.mem loc S.put (S.has k) k a) ∧
    (∀ k, k < 3 → S.w k = none → S.has k = 0 ∨ (1 ≤ S.has k ∧ S.has k ≤ L.many) ∧ loc (S.has k) = .act k) ∧
    L.many + (sum3 fun k => isPop (S.w k) : Nat) ≤ sp.length + S.put ∧
    (∀ p ∈ pl, ∃ t : Int, 1 ≤ t ∧ t ≤ S.put ∧ Full L S.mem p [t]) ∧
    ∀ t : Int, 1 ≤ t → t ≤ S.put → S.seen.getD t.toNat 0 + (inPool L S.mem pl t : Nat) + (sum3 fun k => isPut t (S.w k) : Nat) = 1
  put : (S.put : Int) ≤ max 0 (L.many - 3)
  seen : S.seen.length = 400
  seenz : ∀ j : Nat, S.put < j → S.seen.getD j 0 = 0
  v4 : wHi (ld S.mem 4) ≤ v
  v5 : wHi (ld S.mem 5) ≤ v

theorem sum3_upd {α : Type} (f : α → Nat) (w : Nat → α) (k : Nat) (hk : k < 3) (v : α) : (sum3 fun j => f (upd w k v j)) + f (w k) = (sum3 fun j => f (w j)) + f v := by
  have : k = 0 ∨ k = 1 ∨ k = 2 := by omega
  rcases this with rfl | rfl | rfl <;> simp [sum3, upd] <;> omega
variable {L acts picks}
theorem AInv.more {mem : List Int} {loc : Int → Loc} {put : Nat} {h : Int} {k : Nat} {a : OA} (x : AInv L mem loc put h k a) {put' : Nat} (hp : put ≤ put') : AInv L mem loc put' h k a := by
  refine ⟨x.inv, x.pc, ?_⟩
  rcases x.kind with ⟨a, ⟨t, b, c, d⟩, e⟩ | h | h
  · exact .inl ⟨a, ⟨t, b, by omega, d⟩, e⟩
  · exact .inr (.inl h)
  · exact .inr (.inr h)
theorem freshM (hd : Int) (lk : Int → Int) (mem : List Int) (x : SM) (h : x.head = hd) (hp : x.pc = 1 ∨ x.pc = 4) : MInv lk hd mem x := by
  rcases hp with hp | hp
  · exact ⟨h, by omega, by omega, by omega, by omega, by omega, by omega⟩
  · exact ⟨h, by omega, by omega, by omega, by omega, by omega, by omega⟩
theorem begin_inv {S : OS} {v : Int} {k : Nat} (hk : k < 3) (I : Inv L S v) (hw : S.w k = none) : Inv L (begin L acts k S) v ∧ ∃ a, (begin L acts k S).w k = some a ∧ (begin L acts k S).mem = S.mem ∧ turnsP a.m ≤ 2 := by
  obtain ⟨⟨loc, sp, pl, P, hA, hN, hS, hF, hC⟩, hp, hse, hsz, h4, h5⟩ := I
  have hmany := P.geo.many
  unfold begin
  by_cases h0 : 0 < S.has k
  · rw [if_pos h0]
    obtain ⟨hv, hl⟩ : (1 ≤ S.has k ∧ S.has k ≤ L.many) ∧ loc (S.has k) = .act k := by
      rcases hN k hk hw with h | h
      · omega
      · exact h
    have hlk : 0 ≤ L.link (S.has k) := by have := P.geo.at hv.1 hv.2 (k := 1) (by omega) (by omega); show 0 ≤ L.packet _ 1; omega
    have hb : PM.back L (S.has k) = ⟨[], 0, 0, pushSM 5 (S.has k), 4⟩ := by simp [PM.back, hlk]
    rw [hb]
    have hAI : AInv L S.mem loc S.put (S.has k) k ⟨2, ⟨[], 0, 0, pushSM 5 (S.has k), 4⟩⟩ :=
      ⟨⟨by simp, by simp, by simp, by simp, by simp, by simp, by simp, fun _ => ⟨by simp [pushSM], fun _ => ⟨hv, hl, .inr ⟨freshM 5 _ _ _ rfl (.inl rfl), rfl⟩⟩⟩, fun _ h => by simp [pushSM] at h⟩, by simp, .inr (.inr ⟨rfl, rfl, rfl, by simp [pushSM], rfl⟩)⟩
    refine ⟨⟨⟨loc, sp, pl, P, fun j hj a ha => ?_, fun j hj ha => ?_, ?_, hF, fun t t1 t2 => ?_⟩, hp, hse, hsz, h4, h5⟩, _, upd_same _ _ _, rfl, by simp [turnsP]⟩
    · by_cases e : j = k
      · subst e; simp only [upd_same, Option.some.injEq] at ha; subst ha; exact hAI
      · simp only [upd_ne e] at ha; exact hA j hj a ha
    · by_cases e : j = k
      · subst e; simp only [upd_same] at ha; cases ha
      · simp only [upd_ne e] at ha; exact hN j hj ha
    · have := sum3_upd isPop S.w k hk (some ⟨2, ⟨[], 0, 0, pushSM 5 (S.has k), 4⟩⟩)
      rw [hw] at this
      simp only [isPop] at this hS ⊢
      simp at this
      rw [this]
      exact hS
    · have := sum3_upd (isPut t) S.w k hk (some ⟨2, ⟨[], 0, 0, pushSM 5 (S.has k), 4⟩⟩)
      rw [hw] at this
      have := hC t t1 t2
      simp only [isPut] at *
      simp at *
      omega
  · rw [if_neg h0]
    have hk0 : S.has k = 0 := by
      rcases hN k hk hw with h | h
      · exact h
      · omega
    by_cases hc : acts.getD ((S.n + 1) % acts.length) 0 % 2 = 0 ∧ (S.put : Int) < L.many - 3
    · rw [if_pos hc]
      have hu : U64 ((S.put : Int) + 1) := ⟨by omega, by omega⟩
      have hb : PM.put [(S.put : Int) + 1] = ⟨[(S.put : Int) + 1], 0, 0, popSM 5, 1⟩ := by simp [PM.put]
      rw [hb]
      have hAI : AInv L S.mem loc (S.put + 1) (S.has k) k ⟨0, ⟨[(S.put : Int) + 1], 0, 0, popSM 5, 1⟩⟩ :=
        ⟨⟨by simp, by simpa using hu, by simp, fun _ => ⟨freshM 5 _ _ _ rfl (.inr rfl), by simp [popSM], rfl, by simp⟩, by simp, by simp, by simp, by simp, by simp⟩, by simp, .inl ⟨rfl, ⟨_, by omega, by omega, rfl⟩, hk0⟩⟩
      refine ⟨⟨⟨loc, sp, pl, P, fun j hj a ha => ?_, fun j hj ha => ?_, ?_, fun p hpl => ?_, fun t t1 t2 => ?_⟩, by simp only; omega, hse, fun j hj => hsz j (by simp only at hj; omega), h4, h5⟩, _, upd_same _ _ _, rfl, by simp [turnsP]⟩
      · by_cases e : j = k
        · subst e; simp only [upd_same, Option.some.injEq] at ha; subst ha; exact hAI
        · simp only [upd_ne e] at ha; exact (hA j hj a ha).more (by simp only; omega)
      · by_cases e : j = k
        · subst e; simp only [upd_same] at ha; cases ha
        · simp only [upd_ne e] at ha; exact hN j hj ha
      · have := sum3_upd isPop S.w k hk (some ⟨0, ⟨[(S.put : Int) + 1], 0, 0, popSM 5, 1⟩⟩)
        rw [hw] at this
        simp only [isPop] at this hS ⊢
        simp at this
        rw [this]
        omega
      · obtain ⟨t, a, b, c⟩ := hF p hpl
        exact ⟨t, a, by simp only; omega, c⟩
      · have hu := sum3_upd (isPut t) S.w k hk (some ⟨0, ⟨[(S.put : Int) + 1], 0, 0, popSM 5, 1⟩⟩)
        rw [hw] at hu
        simp only at t2
        by_cases e : t = (S.put : Int) + 1
        · have hz : (sum3 fun j => isPut t (S.w j)) = 0 := by
            have hj : ∀ j, j < 3 → isPut t (S.w j) = 0 := fun j hj => by
              cases hwj : S.w j with
              | none => rfl
              | some a =>
                have h1 := (hA j hj a hwj).kind
                simp only [isPut]
                rw [if_neg]
                rintro ⟨h2, h3⟩
                rcases h1 with ⟨_, ⟨t', a1, a2, a3⟩, _⟩ | h1 | h1
                · rw [h3] at a3; simp at a3; omega
                · omega
                · omega
            show isPut t (S.w 0) + isPut t (S.w 1) + isPut t (S.w 2) = 0
            rw [hj 0 (by omega), hj 1 (by omega), hj 2 (by omega)]
          have hip : inPool L S.mem pl t = 0 := by
            unfold inPool
            rw [List.length_eq_zero_iff, List.filter_eq_nil_iff]
            intro p hpl
            obtain ⟨t', a, b, c⟩ := hF p hpl
            have := c.2 0 (by simp)
            simp at this
            simp [this]
            omega
          have hs0 := hsz t.toNat (by omega)
          simp only [isPut] at hu hz ⊢
          simp only [hip, hs0]
          rw [if_pos ⟨trivial, by rw [e]⟩] at hu
          omega
        · have hcc := hC t t1 (by omega)
          have e0 : isPut t (some (⟨0, ⟨[(S.put : Int) + 1], 0, 0, popSM 5, 1⟩⟩ : OA)) = 0 := by
            simp only [isPut]
            rw [if_neg]
            rintro ⟨_, h⟩
            simp at h
            omega
          have e1 : isPut t (none : Option OA) = 0 := rfl
          rw [e0, e1] at hu
          try simp only
          omega
    · rw [if_neg hc]
      have hAI : AInv L S.mem loc S.put (S.has k) k ⟨1, PM.take⟩ :=
        ⟨⟨by simp [PM.take], by simp [PM.take], by simp [PM.take], by simp [PM.take], by simp [PM.take], by simp [PM.take], by simp [PM.take], fun _ => ⟨by simp [PM.take, popSM], fun h => by simp [PM.take, popSM] at h⟩, fun _ _ => ⟨freshM 4 _ _ _ rfl (.inr rfl), rfl⟩⟩, by simp [PM.take], .inr (.inl ⟨rfl, rfl, rfl, by simp [PM.take, popSM], hk0⟩)⟩
      refine ⟨⟨⟨loc, sp, pl, P, fun j hj a ha => ?_, fun j hj ha => ?_, ?_, hF, fun t t1 t2 => ?_⟩, hp, hse, hsz, h4, h5⟩, _, upd_same _ _ _, rfl, by simp [turnsP, PM.take]⟩
      · by_cases e : j = k
        · subst e; simp only [upd_same, Option.some.injEq] at ha; subst ha; exact hAI
        · simp only [upd_ne e] at ha; exact hA j hj a ha
      · by_cases e : j = k
        · subst e; simp only [upd_same] at ha; cases ha
        · simp only [upd_ne e] at ha; exact hN j hj ha
      · have := sum3_upd isPop S.w k hk (some ⟨1, PM.take⟩)
        rw [hw] at this
        simp only [isPop] at this hS ⊢
        simp [PM.take] at this
        simp only [PM.take]
        rw [this]
        exact hS
      · have hu := sum3_upd (isPut t) S.w k hk (some ⟨1, PM.take⟩)
        rw [hw] at hu
        have e0 : isPut t (some (⟨1, PM.take⟩ : OA)) = 0 := by simp [isPut]
        have e1 : isPut t (none : Option OA) = 0 := rfl
        rw [e0, e1] at hu
        have := hC t t1 t2
        try simp only
        omega

theorem AInv.other {mem mem' : List Int} {loc loc' : Int → Loc} {sp pl : List Int} {i j : Nat} {put : Nat} {h : Int} {a : OA} (x : AInv L mem loc put h j a) (P : PkInv L mem loc sp pl) (F : PFr L mem mem' loc loc' i) (hij : j ≠ i) : AInv L mem' loc' put h j a :=
  ⟨x.inv.other P F hij, x.pc, x.kind⟩
theorem isPut_tasks (t : Int) (a : OA) (m' : PM) (h : m'.tasks = a.m.tasks) : isPut t (some ⟨a.kind, m'⟩) = isPut t (some a) := by simp [isPut, h]
theorem act_inv {S : OS} {v : Int} {k : Nat} {a : OA} (hm400 : L.many ≤ 400) (hk : k < 3) (I : Inv L S v) (hw : S.w k = some a) (hv : v + 1 < 4294967296) :
    Inv L (act L k S a) (v + 1) ∧ ((PM.on L (S.mem, a.m)).2.pc = 0 → a.kind = 1 → 0 < (PM.on L (S.mem, a.m)).2.p →
      1 ≤ ld (PM.on L (S.mem, a.m)).1 (L.task (PM.on L (S.mem, a.m)).2.p 0) ∧ ld (PM.on L (S.mem, a.m)).1 (L.task (PM.on L (S.mem, a.m)).2.p 0) ≤ S.put ∧ ld (PM.on L (S.mem, a.m)).1 (L.manyAt (PM.on L (S.mem, a.m)).2.p) = 1) := by
  obtain ⟨⟨loc, sp, pl, P, hA, hN, hS, hF, hC⟩, hp, hse, hsz, h4, h5⟩ := I
  have hAk := hA k hk a hw
  have ho := pm_on P hAk.inv hAk.pc (by omega) (by omega)
  unfold act
  generalize PM.on L (S.mem, a.m) = q at ho ⊢
  obtain ⟨mem', m'⟩ := q
  simp only at ho ⊢
  have hoth : ∀ loc', PFr L S.mem mem' loc loc' k → (∀ j, j < 3 → j ≠ k → ∀ b, S.w j = some b → AInv L mem' loc' S.put (S.has j) j b) ∧
      (∀ j, j < 3 → j ≠ k → S.w j = none → S.has j = 0 ∨ (1 ≤ S.has j ∧ S.has j ≤ L.many) ∧ loc' (S.has j) = .act j) := fun loc' F =>
    ⟨fun j hj hjk b hb => (hA j hj b hb).other P F hjk, fun j hj hjk hb => by
      rcases hN j hj hb with h | ⟨h1, h2⟩
      · exact .inl h
      · refine .inr ⟨h1, ?_⟩
        rcases F.loc (S.has j) with h | h
        · rw [h]; exact h2
        · exact absurd h2 (h j hjk).1⟩
  have hpoolF : ∀ loc', PFr L S.mem mem' loc loc' k → ∀ p ∈ pl, ∃ t : Int, 1 ≤ t ∧ t ≤ S.put ∧ Full L mem' p [t] := fun loc' F p hpl => by
    obtain ⟨t, a1, a2, a3⟩ := hF p hpl
    obtain ⟨b1, b2⟩ := P.pool hpl
    exact ⟨t, a1, a2, F.full P b1 (by rw [b2]; exact nact_pool) (by simp) a3⟩
  have hinP : ∀ loc', PFr L S.mem mem' loc loc' k → ∀ t, inPool L mem' pl t = inPool L S.mem pl t := fun loc' F t => by
    unfold inPool
    rw [filter_congr fun p hpl => by rw [F.task0 P hpl]]
  have hver : ∀ loc', PFr L S.mem mem' loc loc' k → wHi (ld mem' 4) ≤ v + 1 ∧ wHi (ld mem' 5) ≤ v + 1 := fun loc' F => by
    have := F.ver; omega
  have hpu : ∀ t, isPut t (S.w k) = isPut t (some a) := fun t => by rw [hw]
  have hpo : isPop (S.w k) = isPop (some a) := by rw [hw]
  cases ho with
  | work loc' sp' hpc ht hpool I' inv F hown hsp hpush hpop =>
    try simp only at hpc ht inv hsp hpush hpop
    rw [if_pos hpc]
    refine ⟨⟨⟨loc', sp', pl, I', fun j hj b hb => ?_, fun j hj hb => ?_, ?_, hpoolF _ F, fun t t1 t2 => ?_⟩, hp, hse, hsz, (hver _ F).1, (hver _ F).2⟩, fun h => absurd h hpc⟩
    · by_cases e : j = k
      · subst e
        simp only [upd_same, Option.some.injEq] at hb
        subst hb
        refine ⟨inv, hpc, ?_⟩
        rcases hAk.kind with ⟨a1, a2, a3⟩ | ⟨a1, a2, a3, a4, a5⟩ | ⟨a1, a2, a3, a4, a5⟩
        · exact .inl ⟨a1, by rw [ht]; exact a2, a3⟩
        · obtain ⟨b1, b2⟩ := hpop ⟨a3, a4⟩
          exact .inr (.inl ⟨a1, by rw [ht]; exact a2, b1, b2, a5⟩)
        · obtain ⟨b1, b2, b3⟩ := hpush ⟨a3, a4⟩
          exact .inr (.inr ⟨a1, by rw [ht]; exact a2, b1, b2, by rw [b3]; exact a5⟩)
      · simp only [upd_ne e] at hb
        exact (hoth _ F).1 j hj e b hb
    · by_cases e : j = k
      · subst e; simp only [upd_same] at hb; cases hb
      · simp only [upd_ne e] at hb
        exact (hoth _ F).2 j hj e hb
    · have hu := sum3_upd isPop S.w k hk (some ⟨a.kind, m'⟩)
      rw [hpo] at hu
      simp only [isPop] at hu hS ⊢
      rcases hsp with ⟨rfl, h1⟩ | ⟨h1, h2, h3⟩
      · by_cases e : a.m.pc = 1
        · rw [if_pos e, if_pos (h1.2 e)] at hu; omega
        · rw [if_neg e, if_neg (fun h => e (h1.1 h))] at hu; omega
      · rw [if_pos h1, if_neg (by omega)] at hu; omega
    · have hu := sum3_upd (isPut t) S.w k hk (some ⟨a.kind, m'⟩)
      rw [hpu, isPut_tasks t a m' ht] at hu
      have := hC t t1 t2
      have := hinP _ F t
      try simp only
      omega
  | put p loc' hpc hpe hne hf hvp hl hl' hm ho I' F =>
    try simp only at hpc hpe hf
    have hk0 : a.kind = 0 ∧ (∃ t : Int, 1 ≤ t ∧ t ≤ S.put ∧ a.m.tasks = [t]) ∧ S.has k = 0 := by
      rcases hAk.kind with h | ⟨_, h, _⟩ | ⟨_, h, _⟩
      · exact h
      · exact absurd h hne
      · exact absurd h hne
    obtain ⟨hk0, ⟨t0, a1, a2, a3⟩, hh0⟩ := hk0
    rw [if_neg (by simp [hpc]), if_neg (by omega), if_neg (by omega)]
    rw [a3] at hf
    refine ⟨⟨⟨loc', sp, p :: pl, I', fun j hj b hb => ?_, fun j hj hb => ?_, ?_, fun r hr => ?_, fun t t1 t2 => ?_⟩, hp, hse, hsz, (hver _ F).1, (hver _ F).2⟩, fun _ h => by omega⟩
    · by_cases e : j = k
      · subst e; simp only [upd_same] at hb; cases hb
      · simp only [upd_ne e] at hb
        exact (hoth _ F).1 j hj e b hb
    · by_cases e : j = k
      · subst e; exact .inl hh0
      · simp only [upd_ne e] at hb
        exact (hoth _ F).2 j hj e hb
    · have hu := sum3_upd isPop S.w k hk none
      rw [hpo] at hu
      simp only [isPop] at hu hS ⊢
      omega
    · rcases List.mem_cons.1 hr with rfl | hr
      · exact ⟨t0, a1, a2, hf⟩
      · exact hpoolF _ F r hr
    · have hu := sum3_upd (isPut t) S.w k hk none
      rw [hpu] at hu
      have h0 := hf.2 0 (by simp)
      simp at h0
      have hcc := hC t t1 t2
      have hin := hinP _ F t
      have e1 : inPool L mem' (p :: pl) t = (if t0 = t then 1 else 0) + inPool L mem' pl t := by
        unfold inPool
        rw [List.filter_cons, h0]
        by_cases e : t0 = t
        · simp [e]; omega
        · simp [e]
      have e2 : isPut t (some a) = if t0 = t then 1 else 0 := by simp [isPut, hk0, a3]
      have e3 : isPut t (none : Option OA) = 0 := rfl
      rw [e2, e3] at hu
      rw [e1]
      try simp only
      by_cases e : t0 = t
      · rw [if_pos e] at hu ⊢; omega
      · rw [if_neg e] at hu ⊢; omega
  | took p pl' loc' hpc hpe hvp hpl hl' hm I' F =>
    try simp only at hpc hpe
    have hk1 : a.kind = 1 ∧ S.has k = 0 := by
      rcases hAk.kind with ⟨_, ⟨t, _, _, h⟩, _⟩ | ⟨h, _, _, _, h'⟩ | ⟨_, _, _, h, _⟩
      · have := hAk.inv.h4p hm.1 hm.2
        rw [h] at this
        simp at this
      · exact ⟨h, h'⟩
      · have := hm.2; omega
    have htk : a.m.tasks = [] := (hAk.inv.h4p hm.1 hm.2).2
    obtain ⟨t0, b1, b2, b3⟩ := hF p (by rw [hpl]; simp)
    have hlp := (P.pool (p := p) (by rw [hpl]; simp)).2
    have b3' := F.full P hvp (by rw [hlp]; exact nact_pool) (by simp) b3
    have h0 := b3'.2 0 (by simp)
    simp at h0
    have hmn : ld mem' (L.manyAt p) = 1 := by simpa using b3'.1
    have hp0 : 0 < p := by omega
    rw [if_neg (by simp [hpc]), if_neg (by omega), if_pos ⟨hk1.1, by rw [hpe]; exact hp0⟩]
    rw [hpe]
    have hnd := P.npl
    rw [hpl, List.nodup_cons] at hnd
    refine ⟨⟨⟨loc', sp, pl', I', fun j hj b hb => ?_, fun j hj hb => ?_, ?_, fun r hr => ?_, fun t t1 t2 => ?_⟩, hp, by simp [hse], fun j hj => ?_, (hver _ F).1, (hver _ F).2⟩, fun _ _ _ => ⟨by rw [h0]; exact b1, by rw [h0]; exact b2, hmn⟩⟩
    · by_cases e : j = k
      · subst e; simp only [upd_same] at hb; cases hb
      · simp only [upd_ne e] at hb ⊢
        exact (hoth _ F).1 j hj e b hb
    · by_cases e : j = k
      · subst e
        simp only [upd_same]
        exact .inr ⟨hvp, by rw [hl', setLoc_same]⟩
      · simp only [upd_ne e] at hb ⊢
        exact (hoth _ F).2 j hj e hb
    · have hu := sum3_upd isPop S.w k hk none
      rw [hpo] at hu
      simp only [isPop] at hu hS ⊢
      omega
    · exact hpoolF _ F r (by rw [hpl]; simp [hr])
    · have hu := sum3_upd (isPut t) S.w k hk none
      rw [hpu] at hu
      have hcc := hC t t1 t2
      have hin := hinP _ F t
      have e1 : inPool L mem' pl t = (if t0 = t then 1 else 0) + inPool L mem' pl' t := by
        unfold inPool
        rw [hpl, List.filter_cons, h0]
        by_cases e : t0 = t
        · simp [e]; omega
        · simp [e]
      have e2 : isPut t (some a) = 0 := by simp [isPut, hk1.1]
      have e3 : isPut t (none : Option OA) = 0 := rfl
      rw [e2, e3] at hu
      simp only [h0]
      have hs : (S.seen.set t0.toNat (S.seen.getD t0.toNat 0 + 1)).getD t.toNat 0 = S.seen.getD t.toNat 0 + (if t0 = t then 1 else 0) := by
        by_cases e : t0 = t
        · subst e
          have : t0.toNat < S.seen.length := by omega
          simp [this]
        · have : t0.toNat ≠ t.toNat := by omega
          simp [List.getD_eq_getElem?_getD, List.getElem?_set_ne this, e]
      rw [hs]
      by_cases e : t0 = t
      · rw [if_pos e] at e1 ⊢; omega
      · rw [if_neg e] at e1 ⊢; omega
    · have h1 := hsz j hj
      simp only [h0]
      have : t0.toNat ≠ j := by simp only at hj; omega
      rw [List.getD_eq_getElem?_getD, List.getElem?_set_ne this, ← List.getD_eq_getElem?_getD]
      exact h1
  | none hpc hpe hpl hmem hm =>
    try simp only at hpc hpe hmem
    subst hmem
    have hk1 : a.kind = 1 ∧ S.has k = 0 := by
      rcases hAk.kind with ⟨_, ⟨t, _, _, h⟩, _⟩ | ⟨h, _, _, _, h'⟩ | ⟨_, _, _, h, _⟩
      · have := hAk.inv.h4p hm.1 hm.2
        rw [h] at this
        simp at this
      · exact ⟨h, h'⟩
      · have := hm.2; omega
    rw [if_neg (by simp [hpc]), if_neg (by omega), if_neg (by rw [hpe]; omega)]
    refine ⟨⟨⟨loc, sp, pl, P, fun j hj b hb => ?_, fun j hj hb => ?_, ?_, hF, fun t t1 t2 => ?_⟩, hp, hse, hsz, by simp only; omega, by simp only; omega⟩, fun _ _ h => by rw [hpe] at h; omega⟩
    · by_cases e : j = k
      · subst e; simp only [upd_same] at hb; cases hb
      · simp only [upd_ne e] at hb
        exact hA j hj b hb
    · by_cases e : j = k
      · subst e; exact .inl hk1.2
      · simp only [upd_ne e] at hb
        exact hN j hj hb
    · have hu := sum3_upd isPop S.w k hk none
      rw [hpo] at hu
      simp only [isPop] at hu hS ⊢
      omega
    · have hu := sum3_upd (isPut t) S.w k hk none
      rw [hpu] at hu
      have e2 : isPut t (some a) = 0 := by simp [isPut, hk1.1]
      have e3 : isPut t (none : Option OA) = 0 := rfl
      rw [e2, e3] at hu
      have := hC t t1 t2
      try simp only
      omega
  | back p loc' hpc hpe hvp hl hl' hm ho I' F =>
    try simp only at hpc hpe
    have hk2 : a.kind = 2 := by
      rcases hAk.kind with ⟨_, ⟨t, _, _, h⟩, _⟩ | ⟨_, _, _, h, _⟩ | ⟨h, _⟩
      · have := ho.2; rw [h] at this; simp at this
      · have := hm.2.1; omega
      · exact h
    rw [if_neg (by simp [hpc]), if_pos hk2]
    refine ⟨⟨⟨loc', p :: sp, pl, I', fun j hj b hb => ?_, fun j hj hb => ?_, ?_, hpoolF _ F, fun t t1 t2 => ?_⟩, hp, hse, hsz, (hver _ F).1, (hver _ F).2⟩, fun _ h => by omega⟩
    · by_cases e : j = k
      · subst e; simp only [upd_same] at hb; cases hb
      · simp only [upd_ne e] at hb ⊢
        exact (hoth _ F).1 j hj e b hb
    · by_cases e : j = k
      · subst e; simp only [upd_same]; exact .inl trivial
      · simp only [upd_ne e] at hb ⊢
        exact (hoth _ F).2 j hj e hb
    · have hu := sum3_upd isPop S.w k hk none
      rw [hpo] at hu
      simp only [isPop] at hu hS ⊢
      simp only [List.length_cons]
      omega
    · have hu := sum3_upd (isPut t) S.w k hk none
      rw [hpu] at hu
      have e2 : isPut t (some a) = 0 := by simp [isPut, hk2]
      have e3 : isPut t (none : Option OA) = 0 := rfl
      rw [e2, e3] at hu
      have := hC t t1 t2
      have := hinP _ F t
      try simp only
      omega

/-! ### It ends: with no more picks, each is finished within thirty steps of its own. -/
def turnsO : Option OA → Nat
  | some a => turnsP a.m
  | none => 0
/-- How many steps actor k has left at most, whatever the others do. -/
def left (S : OS) (k : Nat) : Nat :=
  match S.w k with
  | some a => rankP S.mem a.m + 3 * ((sum3 fun j => turnsO (S.w j)) - turnsP a.m)
  | none => 0
theorem act_mem (k : Nat) (S : OS) (a : OA) : (act L k S a).mem = (PM.on L (S.mem, a.m)).1 ∧ (∀ j, j ≠ k → (act L k S a).w j = S.w j) ∧ (act L k S a).w k = (if (PM.on L (S.mem, a.m)).2.pc ≠ 0 then some ⟨a.kind, (PM.on L (S.mem, a.m)).2⟩ else none) ∧ (act L k S a).put = S.put ∧ (act L k S a).n = S.n := by
  unfold act
  simp only
  split
  · exact ⟨rfl, fun j h => upd_ne h, upd_same _ _ _, rfl, rfl⟩
  · split
    · exact ⟨rfl, fun j h => upd_ne h, upd_same _ _ _, rfl, rfl⟩
    · split
      · exact ⟨rfl, fun j h => upd_ne h, upd_same _ _ _, rfl, rfl⟩
      · exact ⟨rfl, fun j h => upd_ne h, upd_same _ _ _, rfl, rfl⟩
theorem act_rank {S : OS} {v : Int} {k : Nat} {a : OA} (hk : k < 3) (I : Inv L S v) (hw : S.w k = some a) :
    rankP (PM.on L (S.mem, a.m)).1 (PM.on L (S.mem, a.m)).2 + 1 ≤ rankP S.mem a.m ∧ turnsP (PM.on L (S.mem, a.m)).2 ≤ turnsP a.m ∧
      (ld (PM.on L (S.mem, a.m)).1 4 = ld S.mem 4 ∧ ld (PM.on L (S.mem, a.m)).1 5 = ld S.mem 5 ∨ turnsP (PM.on L (S.mem, a.m)).2 + 1 ≤ turnsP a.m) := by
  obtain ⟨⟨loc, sp, pl, P, hA, hN, hS, hF, hC⟩, hp, hse, hsz, h4, h5⟩ := I
  have hAk := hA k hk a hw
  refine pm_rank P hAk.inv hAk.pc (fun hpc e => ?_) _ rfl
  have h1 : isPop (S.w k) ≤ sum3 fun k => isPop (S.w k) := by
    have : k = 0 ∨ k = 1 ∨ k = 2 := by omega
    unfold sum3
    rcases this with rfl | rfl | rfl <;> simp <;> omega
  rw [hw] at h1
  simp only [isPop] at h1 hS
  rw [if_pos hpc] at h1
  rw [e] at hS
  simp at hS
  have := P.geo.many
  omega
theorem left_act {S : OS} {v : Int} {k : Nat} {a : OA} (hk : k < 3) (I : Inv L S v) (hw : S.w k = some a) :
    (∀ j, j < 3 → j ≠ k → left (act L k S a) j ≤ left S j) ∧ left (act L k S a) k + 1 ≤ left S k := by
  obtain ⟨r1, r2, r3⟩ := act_rank hk I hw
  obtain ⟨m1, m2, m3, _, _⟩ := act_mem (L := L) k S a
  have hI := I
  obtain ⟨⟨loc, sp, pl, P, hA, hN, hS, hF, hC⟩, hp, hse, hsz, h4, h5⟩ := I
  have hsum := sum3_upd turnsO S.w k hk ((act L k S a).w k)
  have hsw : (sum3 fun j => turnsO ((act L k S a).w j)) = sum3 fun j => turnsO (upd S.w k ((act L k S a).w k) j) := by
    congr 1
    funext j
    by_cases e : j = k
    · rw [e, upd_same]
    · rw [upd_ne e, m2 j e]
  rw [← hsw, hw] at hsum
  have ht : turnsO ((act L k S a).w k) ≤ turnsP (PM.on L (S.mem, a.m)).2 := by
    rw [m3]
    split
    · exact Nat.le_refl _
    · exact Nat.zero_le _
  have hin : ∀ j, j < 3 → turnsO (S.w j) ≤ sum3 fun j => turnsO (S.w j) := fun j hj => by
    have : j = 0 ∨ j = 1 ∨ j = 2 := by omega
    unfold sum3
    rcases this with rfl | rfl | rfl <;> simp <;> omega
  have e0 : turnsO (some a) = turnsP a.m := rfl
  rw [e0] at hsum
  constructor
  · intro j hj hjk
    unfold left
    rw [m2 j hjk, m1]
    cases hwj : S.w j with
    | none => exact Nat.le_refl _
    | some b =>
      simp only
      have hAj := hA j hj b hwj
      obtain ⟨o1, o2⟩ := rankP_other S.mem (PM.on L (S.mem, a.m)).1 b.m
      have hb := hin j hj
      rw [hwj] at hb
      have eb : turnsO (some b) = turnsP b.m := rfl
      rw [eb] at hb
      have hjk2 : turnsP b.m + turnsP a.m ≤ sum3 fun j => turnsO (S.w j) := by
        have h1 : turnsO (S.w j) = turnsP b.m := by rw [hwj]; rfl
        have h2 : turnsO (S.w k) = turnsP a.m := by rw [hw]; rfl
        have a1 : j = 0 ∨ j = 1 ∨ j = 2 := by omega
        have a2 : k = 0 ∨ k = 1 ∨ k = 2 := by omega
        show _ ≤ turnsO (S.w 0) + turnsO (S.w 1) + turnsO (S.w 2)
        rcases a1 with rfl | rfl | rfl <;> rcases a2 with rfl | rfl | rfl <;> first | exact absurd rfl hjk | omega
      rcases r3 with ⟨q4, q5⟩ | r3
      · rw [o2 q4 q5 (fun h => (hAj.inv.head4 h).1)]
        omega
      · omega
  · have hk' := hin k hk
    rw [hw, e0] at hk'
    have hl : left S k = rankP S.mem a.m + 3 * ((sum3 fun j => turnsO (S.w j)) - turnsP a.m) := by unfold left; rw [hw]
    rw [hl]
    by_cases hz : (PM.on L (S.mem, a.m)).2.pc ≠ 0
    · have hw' : (act L k S a).w k = some ⟨a.kind, (PM.on L (S.mem, a.m)).2⟩ := by rw [m3, if_pos hz]
      have hl' : left (act L k S a) k = rankP (act L k S a).mem (PM.on L (S.mem, a.m)).2 + 3 * ((sum3 fun j => turnsO ((act L k S a).w j)) - turnsP (PM.on L (S.mem, a.m)).2) := by unfold left; rw [hw']
      rw [hl', m1]
      rw [hw'] at hsum
      have e1 : turnsO (some (⟨a.kind, (PM.on L (S.mem, a.m)).2⟩ : OA)) = turnsP (PM.on L (S.mem, a.m)).2 := rfl
      rw [e1] at hsum
      omega
    · have hw' : (act L k S a).w k = none := by rw [m3, if_neg hz]
      have hl' : left (act L k S a) k = 0 := by unfold left; rw [hw']
      rw [hl']
      omega
theorem left_bound {S : OS} {v : Int} (I : Inv L S v) (k : Nat) (hk : k < 3) : left S k ≤ 25 := by
  obtain ⟨⟨loc, sp, pl, P, hA, hN, hS, hF, hC⟩, hp, hse, hsz, h4, h5⟩ := I
  have ht : ∀ j, j < 3 → turnsO (S.w j) ≤ 2 := fun j hj => by
    cases h : S.w j with
    | none => simp [turnsO]
    | some a => simp only [turnsO, turnsP]; split <;> omega
  have t0 := ht 0 (by omega)
  have t1 := ht 1 (by omega)
  have t2 := ht 2 (by omega)
  unfold left
  cases hw : S.w k with
  | none => simp
  | some a =>
    simp only
    have hAk := hA k hk a hw
    have hs : (sum3 fun j => turnsO (S.w j)) ≤ 4 + turnsP a.m := by
      have h2 : turnsO (S.w k) = turnsP a.m := by rw [hw]; rfl
      have a2 : k = 0 ∨ k = 1 ∨ k = 2 := by omega
      show turnsO (S.w 0) + turnsO (S.w 1) + turnsO (S.w 2) ≤ _
      rcases a2 with rfl | rfl | rfl <;> omega
    have hlen : a.m.tasks.length ≤ 1 := by
      rcases hAk.kind with ⟨_, ⟨t, _, _, h⟩, _⟩ | ⟨_, h, _⟩ | ⟨_, h, _⟩ <;> rw [h] <;> simp
    have hr : rankP S.mem a.m ≤ 10 := by
      have hc : a.m.pc = 1 ∨ a.m.pc = 2 ∨ a.m.pc = 3 ∨ a.m.pc = 4 := by have := hAk.inv.pc; have := hAk.pc; omega
      unfold rankP
      rcases hc with h | h | h | h
      · rw [h]
        obtain ⟨b1, b2, _⟩ := hAk.inv.h1 h
        have := (rankS_pos (mem := S.mem) (hd := 5) (x := a.m.x) (by omega) b1.pc).2
        simp only; omega
      · rw [h]; simp only; omega
      · rw [h]; simp only; omega
      · rw [h]
        obtain ⟨_, b1, b2⟩ := hAk.inv.head4 h
        have := (rankS_pos (mem := S.mem) (hd := a.m.x.head) (x := a.m.x) b2 b1).2
        simp only; omega
    omega

/-! ### The whole run -/
variable (L acts picks)
theorem who_lt (i : Nat) (h : ∀ x ∈ picks, 0 ≤ x) : who picks i < 3 := by
  unfold who
  split
  · have := h _ (getD_mem picks i (by assumption)); omega
  · omega
/-- A round of one actor. -/
theorem round_inv {S : OS} {v : Int} (hm : L.many ≤ 400) (hpk : ∀ x ∈ picks, 0 ≤ x) (i : Nat) (I : Inv L S v) (hv : v + 1 < 4294967296) : Inv L (round L acts picks i S) (v + 1) := by
  have hk := who_lt picks i hpk
  have hup : Inv L S (v + 1) := ⟨I.ex, I.put, I.seen, I.seenz, by have := I.v4; omega, by have := I.v5; omega⟩
  unfold round
  simp only
  cases hw : S.w (who picks i) with
  | some a => exact (act_inv hm hk I hw hv).1
  | none =>
    simp only
    split
    · exact hup
    · obtain ⟨I', a, ha, _⟩ := begin_inv (acts := acts) hk I hw
      rw [ha]
      exact (act_inv hm hk I' ha hv).1
theorem run_inv {mem : List Int} (hm : L.many ≤ 400) (hpk : ∀ x ∈ picks, 0 ≤ x) (I0 : Inv L (run L acts picks mem 0) 1) (B : Int) (hB : B ≤ 100000) : ∀ i : Nat, (i : Int) ≤ B → Inv L (run L acts picks mem i) (i + 1)
  | 0, _ => by simpa using I0
  | i + 1, h => by
    have ih := run_inv hm hpk I0 B hB i (by omega)
    have := round_inv L acts picks hm hpk i ih (by omega)
    simp only [run]
    rw [show ((i + 1 : Nat) : Int) + 1 = (i : Int) + 1 + 1 from by omega]
    exact this
/-- How often it was k's turn, behind the picks. -/
def turnsOf (k : Nat) : Nat → Nat
  | 0 => 0
  | d + 1 => turnsOf k d + if (picks.length + d) % 3 = k then 1 else 0
theorem turnsOf_three (k : Nat) (hk : k < 3) (d : Nat) : turnsOf picks k (d + 3) = turnsOf picks k d + 1 := by
  have h : ∀ n : Nat, (if n % 3 = k then 1 else 0) + (if (n + 1) % 3 = k then 1 else 0) + (if (n + 2) % 3 = k then 1 else 0) = 1 := fun n => by
    have : n % 3 = 0 ∨ n % 3 = 1 ∨ n % 3 = 2 := by omega
    have : k = 0 ∨ k = 1 ∨ k = 2 := by omega
    split <;> split <;> split <;> omega
  have := h (picks.length + d)
  simp only [turnsOf]
  rw [show picks.length + (d + 1) = picks.length + d + 1 from by omega, show picks.length + (d + 2) = picks.length + d + 2 from by omega]
  omega
theorem turnsOf_many (k : Nat) (hk : k < 3) : ∀ m, turnsOf picks k (3 * m) = m
  | 0 => rfl
  | m + 1 => by rw [show 3 * (m + 1) = 3 * m + 3 from by omega, turnsOf_three picks k hk, turnsOf_many k hk m]
theorem tail_left {mem : List Int} (hm : L.many ≤ 400) (hpk : ∀ x ∈ picks, 0 ≤ x) (hl : (picks.length : Int) ≤ 90000) (I0 : Inv L (run L acts picks mem 0) 1) (k : Nat) (hk : k < 3) :
    ∀ d : Nat, d ≤ 90 → (run L acts picks mem (picks.length + d)).w k = none ∨ left (run L acts picks mem (picks.length + d)) k + turnsOf picks k d ≤ 25
  | 0, _ => .inr (by
    have := left_bound (run_inv L acts picks hm hpk I0 100000 (Int.le_refl _) picks.length (by omega)) k hk
    simpa [turnsOf] using this)
  | d + 1, hd => by
    have ih := tail_left hm hpk hl I0 k hk d (by omega)
    have I := run_inv L acts picks hm hpk I0 100000 (Int.le_refl _) (picks.length + d) (by omega)
    have e : run L acts picks mem (picks.length + (d + 1)) = round L acts picks (picks.length + d) (run L acts picks mem (picks.length + d)) := rfl
    rw [e]
    generalize run L acts picks mem (picks.length + d) = S at ih I
    have hwho : who picks (picks.length + d) = (picks.length + d) % 3 := by unfold who; rw [if_neg (by omega)]
    have hj3 : (picks.length + d) % 3 < 3 := by omega
    unfold round
    simp only [hwho]
    have hge : picks.length ≤ picks.length + d := by omega
    cases hw : S.w ((picks.length + d) % 3) with
    | none =>
      simp only [hge, if_true, turnsOf]
      by_cases e : (picks.length + d) % 3 = k
      · rw [e] at hw; exact .inl hw
      · rw [if_neg e]; exact ih
    | some a =>
      simp only [turnsOf]
      obtain ⟨l1, l2⟩ := left_act hj3 I hw
      obtain ⟨m1, m2, m3, _⟩ := act_mem (L := L) ((picks.length + d) % 3) S a
      by_cases e : (picks.length + d) % 3 = k
      · rw [if_pos e]
        rw [e] at hw l2 ⊢
        rcases ih with h | h
        · rw [hw] at h; cases h
        · exact .inr (by omega)
      · rw [if_neg e]
        rcases ih with h | h
        · exact .inl (by rw [m2 k (Ne.symm e)]; exact h)
        · have := l1 k hk (Ne.symm e)
          exact .inr (by omega)
theorem end_none {mem : List Int} (hm : L.many ≤ 400) (hpk : ∀ x ∈ picks, 0 ≤ x) (hl : (picks.length : Int) ≤ 90000) (I0 : Inv L (run L acts picks mem 0) 1) (k : Nat) (hk : k < 3) : (run L acts picks mem (picks.length + 90)).w k = none := by
  rcases tail_left L acts picks hm hpk hl I0 k hk 90 (Nat.le_refl _) with h | h
  · exact h
  · have := turnsOf_many picks k hk 30
    rw [show 3 * 30 = 90 from rfl] at this
    omega
/-- In the end: what the pool holds, and what was seen. -/
theorem end_all {mem : List Int} (hm : L.many ≤ 400) (hpk : ∀ x ∈ picks, 0 ≤ x) (hl : (picks.length : Int) ≤ 90000) (I0 : Inv L (run L acts picks mem 0) 1) :
    ∃ pl : List Int, pl.Nodup ∧ (∀ p ∈ pl, 1 ≤ p ∧ p ≤ L.many) ∧ Chain L.many L.link (run L acts picks mem (picks.length + 90)).mem (wLo (ld (run L acts picks mem (picks.length + 90)).mem 4)) pl ∧
      (∀ p ∈ pl, ∃ t : Int, 1 ≤ t ∧ t ≤ (run L acts picks mem (picks.length + 90)).put ∧ Full L (run L acts picks mem (picks.length + 90)).mem p [t]) ∧
      ∀ t : Int, 1 ≤ t → t ≤ (run L acts picks mem (picks.length + 90)).put → (run L acts picks mem (picks.length + 90)).seen.getD t.toNat 0 + (inPool L (run L acts picks mem (picks.length + 90)).mem pl t : Nat) = 1 := by
  have hn := fun k hk => end_none L acts picks hm hpk hl I0 k hk
  obtain ⟨⟨loc, sp, pl, P, hA, hN, hS, hF, hC⟩, hp, hse, hsz, h4, h5⟩ := run_inv L acts picks hm hpk I0 100000 (Int.le_refl _) (picks.length + 90) (by omega)
  refine ⟨pl, P.npl, fun p hpl => (P.pool hpl).1, P.cpl, hF, fun t t1 t2 => ?_⟩
  have h := hC t t1 t2
  have hz : (sum3 fun k => isPut t ((run L acts picks mem (picks.length + 90)).w k)) = 0 := by
    show isPut t (_) + isPut t (_) + isPut t (_) = 0
    rw [hn 0 (by omega), hn 1 (by omega), hn 2 (by omega)]
    rfl
  omega

variable {L acts picks}
theorem zeros_getD (n j : Nat) : (List.replicate n (0 : Int)).getD j 0 = 0 := by
  by_cases h : j < n
  · simp [h]
  · simp [h]
theorem init_inv {c : Cfg} (hc : c.Ok) : Inv c.lay (run c.lay acts picks c.first 0) 1 := by
  have hm := (c.lay_ok hc).many
  have e5 : ld c.first 5 = 1 := by
    have h := Cfg.ld_first hc (5, 0, 0) (by simp)
    rw [Cfg.place_single 5 (by omega)] at h
    exact h
  have e4 : ld c.first 4 = 0 := by
    have h := Cfg.ld_first hc (4, 0, 0) (by simp)
    rw [Cfg.place_single 4 (by omega)] at h
    exact h
  refine ⟨⟨fun _ => .spare, c.spares, [], Cfg.first_pk hc, fun k _ a h => ?_, fun k _ _ => .inl rfl, ?_, by simp, fun t t1 t2 => ?_⟩, ?_, List.length_replicate, fun j _ => zeros_getD 400 j, ?_, ?_⟩
  · simp only [run] at h; cases h
  · simp only [run, isPop, sum3, Cfg.spares, List.length_map, List.length_range]
    omega
  · simp only [run] at t2; omega
  · simp only [run]; omega
  · simp only [run]; rw [e4]; decide
  · simp only [run]; rw [e5]; decide
end OS
theorem OS.act_n (L : Lay) (k : Nat) (S : OS) (a : OA) : (OS.act L k S a).n = S.n := (OS.act_mem k S a).2.2.2.2
theorem OS.begin_n (L : Lay) (acts : List Int) (k : Nat) (S : OS) : (OS.begin L acts k S).n = S.n + 1 := by unfold OS.begin; split <;> (try split) <;> rfl
theorem OS.run_n (L : Lay) (acts picks mem : List Int) : ∀ i, (OS.run L acts picks mem i).n ≤ i
  | 0 => Nat.zero_le _
  | i + 1 => by
    have ih := OS.run_n L acts picks mem i
    show (OS.round L acts picks i (OS.run L acts picks mem i)).n ≤ i + 1
    generalize OS.run L acts picks mem i = S at ih
    unfold OS.round
    simp only
    split
    · rw [OS.act_n]; omega
    · split
      · omega
      · split
        · rw [OS.act_n, OS.begin_n]; omega
        · rw [OS.begin_n]; omega
/-- A small configuration has few packets. -/
theorem Cfg.few (c : Cfg) (h : c.CellsOk) (hn : c.nodes ≤ 12) (hch : 1 ≤ c.chunk) (hma : c.markers ≤ 4) (hmu : c.mutators ≤ 4) : c.lay.many ≤ 300 := by
  have h1 := c.pieces_range hch c.nodes.toNat
  have h2 : c.lay.many = c.base + c.pieces c.nodes.toNat := rfl
  have h3 : c.base = c.nodes + 2 * c.markers + c.mutators := rfl
  have h4 := c.nodes_in h
  omega
end Go.Proofs.Ytcgnficlcgmffaa
