/-
  Package packet: packets of tasks: a machine's steps.
-/
import Derived.Test.YtcgnficlcgmffaaStack
import Derived.Test.YtcgnficlcgmffaaSlice
namespace Go.Proofs.Ytcgnficlcgmffaa
open Go.RowKit

/-! ### A map and a memory that lie apart -/
/-- A map and a memory below 'hi'. -/
structure Env (w : World) (μ : Mp) (σ : St) (hi : Nat) : Prop where
  map : IsMap w μ
  st : IsSt w σ
  m1 : μ.m < hi
  m2 : μ.ab < hi
  m3 : μ.rb < hi
  s1 : σ.s < hi
  s2 : σ.sb < hi
  d : σ.s ≠ μ.m ∧ σ.s ≠ μ.ab ∧ σ.s ≠ μ.rb ∧ σ.sb ≠ μ.m ∧ σ.sb ≠ μ.ab ∧ σ.sb ≠ μ.rb
  le : hi ≤ w.heap.size
theorem Env.ext {w w' : World} {μ : Mp} {σ σ' : St} {hi : Nat} {S : List Nat} (h : Env w μ σ hi) (he : Ext S w w') (hS : ∀ g, g ∈ S → g = σ.s ∨ g = σ.sb ∨ hi ≤ g) (hs : IsSt w' σ') (e1 : σ'.s = σ.s) (e2 : σ'.sb = σ.sb) : Env w' μ σ' hi := by
  obtain ⟨d1, d2, d3, d4, d5, d6⟩ := h.d
  have hm1 := h.m1
  have hm2 := h.m2
  have hm3 := h.m3
  refine ⟨h.map.ext he (fun hm => ?_) (fun hm => ?_) (fun hm => ?_), hs, h.m1, h.m2, h.m3, by rw [e1]; exact h.s1, by rw [e2]; exact h.s2, by rw [e1, e2]; exact h.d, Nat.le_trans h.le he.size⟩
  · rcases hS _ hm with h' | h' | h' <;> omega
  · rcases hS _ hm with h' | h' | h' <;> omega
  · rcases hS _ hm with h' | h' | h' <;> omega
theorem Env.ext0 {w w' : World} {μ : Mp} {σ : St} {hi : Nat} {S : List Nat} (h : Env w μ σ hi) (he : Ext S w w') (hS : ∀ g, g ∈ S → hi ≤ g) : Env w' μ σ hi :=
  h.ext he (fun g hg => .inr (.inr (hS g hg))) (h.st.ext he (fun hm => by have := hS _ hm; have := h.s1; omega) (fun hm => by have := hS _ hm; have := h.s2; omega)) rfl rfl
theorem Env.drewN {w : World} {μ : Mp} {σ : St} {hi : Nat} (h : Env w μ σ hi) (n : Nat) : Env (w.drewN n) μ σ hi := h.ext0 ((Ext.refl [] w).drewN n) (by simp)

theorem method_step (a : Addr) (fuel : Nat) (w : World) : (method (fuel + 1) 118 (.pointer (some a)) "Step").run Try.prog w = .ok (222, .pointer (some a)) w := by kernel_rfl

def PM.nx (x : Nat) : Nat → Value
  | 1 => .func (.func 89) #[.pointer (some ⟨x, 0, none⟩)] #[]
  | 2 => .func (.func 143) #[.pointer (some ⟨x, 0, none⟩)] #[]
  | 3 => .func (.func 165) #[.pointer (some ⟨x, 0, none⟩)] #[]
  | 4 => .func (.func 100) #[.pointer (some ⟨x, 0, none⟩)] #[]
  | _ => .nilFunc
theorem PM.nx_func (x pc : Nat) (h : pc ≠ 0) (h4 : pc ≤ 4) : ∃ f, PM.nx x pc = .func (.func f) #[.pointer (some ⟨x, 0, none⟩)] #[] := by
  have : pc = 1 ∨ pc = 2 ∨ pc = 3 ∨ pc = 4 := by omega
  rcases this with rfl | rfl | rfl | rfl <;> exact ⟨_, rfl⟩
def PM.cells (m : PM) (μ : Mp) (x : Nat) (tv iv : Value) : List Value := [μ.ptr, tv, .int .i64 m.j, .int .i64 m.p, iv, PM.nx x m.pc]
/-- The machine at x; its blocks: B. -/
structure IsPM (w : World) (μ : Mp) (x : Nat) (B : List Nat) (m : PM) : Prop where
  ex : ∃ (tv iv : Value) (tb : Option Nat), Blk w x (m.cells μ x tv iv) 121 ∧ Sl w 39 1 tb tv m.tasks.length (u64s m.tasks) ∧ (∀ g, tb = some g → g ∈ B ∧ g ≠ x) ∧
    (m.pc = 1 ∨ m.pc = 4 → ∃ i, iv = .pointer (some ⟨i, 0, none⟩) ∧ i ∈ B ∧ i ≠ x ∧ tb ≠ some i ∧ IsSM w μ true i m.x)
  mem : x ∈ B
  ok : m.Ok
theorem IsPM.ext {w w' : World} {μ : Mp} {x : Nat} {B S : List Nat} {m : PM} (h : IsPM w μ x B m) (he : Ext S w w') (hB : ∀ g ∈ B, g ∉ S) : IsPM w' μ x B m := by
  obtain ⟨tv, iv, tb, h1, h2, h3, h4⟩ := h.ex
  refine ⟨⟨tv, iv, tb, h1.ext he (hB _ h.mem), h2.ext he (fun g hg => hB _ (h3 g hg).1), h3, fun hp => ?_⟩, h.mem, h.ok⟩
  obtain ⟨i, e, hi, n1, n2, h5⟩ := h4 hp
  exact ⟨i, e, hi, n1, n2, h5.ext he (hB _ hi)⟩
theorem IsPM.mono {w : World} {μ : Mp} {x : Nat} {B B' : List Nat} {m : PM} (h : IsPM w μ x B m) (hB : ∀ g ∈ B, g ∈ B') : IsPM w μ x B' m := by
  obtain ⟨tv, iv, tb, h1, h2, h3, h4⟩ := h.ex
  refine ⟨⟨tv, iv, tb, h1, h2, fun g hg => ⟨hB _ (h3 g hg).1, (h3 g hg).2⟩, fun hp => ?_⟩, hB _ h.mem, h.ok⟩
  obtain ⟨i, e, hi, n1, n2, h5⟩ := h4 hp
  exact ⟨i, e, hB _ hi, n1, n2, h5⟩

/-- What a step leaves. -/
def PMPost (w : World) (μ : Mp) (hi x : Nat) (σ : St) (B : List Nat) (σ' : St) (m' : PM) (w' : World) : Prop :=
  Env w' μ σ' hi ∧ ∃ B', IsPM w' μ x B' m' ∧ Ext (σ.s :: σ.sb :: B) w w' ∧ ∀ g ∈ B', g ∈ B ∨ w.heap.size ≤ g

theorem PM_close {w W : World} {μ : Mp} {hi x i : Nat} {σ σ' : St} {B : List Nat} {m m' : PM} {tv iv' : Value} {tb : Option Nat}
    (E : Env w μ σ hi) (hB : ∀ g ∈ B, hi ≤ g) (hx : x ∈ B) (h2 : Sl w 39 1 tb tv m.tasks.length (u64s m.tasks)) (h3 : ∀ g, tb = some g → g ∈ B ∧ g ≠ x)
    (he : Ext [σ.s, σ.sb, x, i] w W) (hib : i ∈ B) (hti : tb ≠ some i) (hs : IsSt W σ') (es : σ'.s = σ.s ∧ σ'.sb = σ.sb)
    (hW : Blk W x (m'.cells μ x tv iv') 121) (ht : m'.tasks = m.tasks) (hok : m'.Ok)
    (hin : m'.pc = 1 ∨ m'.pc = 4 → ∃ i', iv' = .pointer (some ⟨i', 0, none⟩) ∧ (i' ∈ B ∨ w.heap.size ≤ i') ∧ i' ≠ x ∧ tb ≠ some i' ∧ IsSM W μ true i' m'.x) :
    PMPost w μ hi x σ B σ' m' W := by
  have hs1 := E.s1
  have hs2 := E.s2
  have he' : Ext (σ.s :: σ.sb :: B) w W := he.mono (fun g hg => by
    simp only [List.mem_cons, List.not_mem_nil, or_false] at hg
    rcases hg with rfl | rfl | rfl | rfl
    · exact .inl (by simp)
    · exact .inl (by simp)
    · exact .inl (by simp [hx])
    · exact .inl (by simp [hib]))
  have h2' : Sl W 39 1 tb tv m.tasks.length (u64s m.tasks) := h2.ext he (fun g hg hm => by
    obtain ⟨g1, g2⟩ := h3 g hg
    have := hB g g1
    simp only [List.mem_cons, List.not_mem_nil, or_false] at hm
    rcases hm with rfl | rfl | rfl | rfl
    · omega
    · omega
    · exact g2 rfl
    · exact hti hg)
  refine ⟨E.ext he' (fun g hg => ?_) hs es.1 es.2, ?_⟩
  · simp only [List.mem_cons] at hg
    rcases hg with rfl | rfl | hg
    · exact .inl rfl
    · exact .inr (.inl rfl)
    · exact .inr (.inr (hB g hg))
  · by_cases hp : m'.pc = 1 ∨ m'.pc = 4
    · obtain ⟨i', e1, e2, e3, e4, e5⟩ := hin hp
      refine ⟨i' :: B, ⟨⟨tv, iv', tb, hW, by rw [ht]; exact h2', fun g hg => ⟨by simp [(h3 g hg).1], (h3 g hg).2⟩, fun _ => ⟨i', e1, by simp, e3, e4, e5⟩⟩, by simp [hx], hok⟩, he', fun g hg => ?_⟩
      simp only [List.mem_cons] at hg
      rcases hg with rfl | hg
      · exact e2
      · exact .inl hg
    · exact ⟨B, ⟨⟨tv, iv', tb, hW, by rw [ht]; exact h2', h3, fun h => absurd h hp⟩, hx, hok⟩, he', fun g hg => .inl hg⟩

section
variable {w : World} {μ : Mp} {σ : St} {hi x : Nat} {B : List Nat} {m : PM} (E : Env w μ σ hi) (H : IsPM w μ x B m) (hB : ∀ g ∈ B, hi ≤ g)
include E H hB

theorem last_c (hp : m.pc = 4) : Calls Try.prog 100 #[.pointer (some ⟨x, 0, none⟩), .pointer (some ⟨σ.s, 0, none⟩)] w fun e w' =>
    e = .returned (.tuple #[]) ∧ PMPost w μ hi x σ B (PM.step μ.L σ m).1 (PM.step μ.L σ m).2 w' := by
  obtain ⟨tv, iv, tb, h1, h2, h3, h4⟩ := H.ex
  obtain ⟨i, rfl, hi1, hi2, hi3, h5⟩ := h4 (.inr hp)
  have hs1 := E.s1
  have hs2 := E.s2
  have hix : hi ≤ x := hB x H.mem
  have hii : hi ≤ i := hB i hi1
  have hS := SMStep_c E.st h5 (by omega) (by omega) E.map H.ok.x
  have hpc := SM.step_pc (lk := lk μ true) (σ := σ) H.ok.x
  have hso := SM.step_ok (lk := lk μ true) E.st h5.ok
  have hes := Lib.hid (And.intro (SM.step_s (lk μ true) σ m.x) (SM.step_sb (lk μ true) σ m.x))
  have hok := H.ok
  have hmem := H.mem
  have hc := h1.cells
  have hf := h1.free
  clear H
  obtain ⟨tasks, j, p, sm, pc⟩ := m
  obtain rfl : pc = 4 := hp
  have hst : PM.step μ.L σ ⟨tasks, j, p, sm, 4⟩ = (let q := SM.step (lk μ true) σ sm
    if q.2.pc = 0 then (q.1, { tasks, j, p := q.2.item, x := q.2, pc := 0 }) else (q.1, { tasks, j, p, x := q.2, pc := 4 })) := rfl
  rw [hst]
  clear hst
  simp only [PM.cells, PM.nx] at hc
  simp only at hS hpc hes hso
  generalize SM.step (lk μ true) σ sm = q at hS hpc hes hso ⊢
  obtain ⟨σ', sm'⟩ := q
  simp only at hS hpc hes hso ⊢
  have hm := method_step ⟨i, 0, none⟩
  have K1 : ∀ W, Ext [σ.s, σ.sb, x, i] w W → IsSt W σ' → IsSM W μ true i sm' → sm'.pc = 0 → Blk W x (PM.cells ⟨tasks, j, sm'.item, sm', 0⟩ μ x tv (.pointer (some ⟨i, 0, none⟩))) 121 →
      PMPost w μ hi x σ B σ' ⟨tasks, j, sm'.item, sm', 0⟩ W := fun W he hs hsm hz hW =>
    PM_close E hB hmem h2 h3 he hi1 hi3 hs hes.out hW rfl ⟨hok.tasks, hok.len, hso.item, hpc, by simp, hok.j, by simp⟩ (by simp)
  have K2 : ∀ W, Ext [σ.s, σ.sb, x, i] w W → IsSt W σ' → IsSM W μ true i sm' → Blk W x (PM.cells ⟨tasks, j, p, sm', 4⟩ μ x tv (.pointer (some ⟨i, 0, none⟩))) 121 →
      PMPost w μ hi x σ B σ' ⟨tasks, j, p, sm', 4⟩ W := fun W he hs hsm hW =>
    PM_close E hB hmem h2 h3 he hi1 hi3 hs hes.out hW rfl ⟨hok.tasks, hok.len, hok.p, hpc, by simp, hok.j, by simp⟩ (fun _ => ⟨i, rfl, .inl hi1, hi2, hi3, hsm⟩)
  have n1 : x ≠ σ'.s := by rw [hes.out.1]; omega
  have n2 : x ≠ σ'.sb := by rw [hes.out.2]; omega
  clear hes
  by_cases hz : sm'.pc = 0
  · simp only [hz, decide_true, if_true] at hS ⊢
    have HS := Lib.hid hS
    clear hS
    have HZ := Lib.hid hz
    clear hz
    go_enter Try.func100, Try.ntmps100
    go_wp2_with (first | (go_at_call 141; go_in) | (go_at_call 222; refine HS.out.mono ?_; rintro e w1 ⟨rfl, hs, hsm, he⟩; have hx1 := h1.ext he (by simp; omega); have hc1 := hx1.cells; have hf1 := hx1.free; simp only [PM.cells, PM.nx] at hc1) | (go_at_call 142; refine (Item_c hsm HZ.out).mono ?_; rintro e w2 ⟨rfl, rfl⟩))
    go_end0
    refine ⟨rfl, K1 _ ((((he.mono (by simp)).setCell _ _ (.inl (by simp))).setCell _ _ (.inl (by simp)))) ((hs.set _ n1 n2).set _ n1 n2) ((hsm.set _ hi2.symm).set _ hi2.symm) HZ.out ((hx1.set 3 _).set 5 _)⟩
  · simp only [hz, decide_false, if_false] at hS ⊢
    have HS := Lib.hid hS
    clear hS hz
    go_enter Try.func100, Try.ntmps100
    go_wp2_with (first | (go_at_call 141; go_in) | (go_at_call 222; refine HS.out.mono ?_; rintro e w1 ⟨rfl, hs, hsm, he⟩; have hx1 := h1.ext he (by simp; omega); have hc1 := hx1.cells; have hf1 := hx1.free; simp only [PM.cells, PM.nx] at hc1))
    go_end0
    exact ⟨rfl, K2 _ (he.mono (by simp)) hs hsm hx1⟩

theorem many_c (hp : m.pc = 3) : Calls Try.prog 165 #[.pointer (some ⟨x, 0, none⟩), .pointer (some ⟨σ.s, 0, none⟩)] w fun e w' =>
    e = .returned (.tuple #[]) ∧ PMPost w μ hi x σ B (PM.step μ.L σ m).1 (PM.step μ.L σ m).2 w' := by
  obtain ⟨tv, iv, tb, h1, h2, h3, h4⟩ := H.ex
  clear h4
  have hs1 := E.s1
  have hs2 := E.s2
  have hix : hi ≤ x := hB x H.mem
  have hok := H.ok
  have hmem := H.mem
  have hxt : tb ≠ some x := fun h => (h3 x h).2 rfl
  have hc := h1.cells
  have hf := h1.free
  have hxl := h1.lt
  clear H
  obtain ⟨tasks, j, p, sm, pc⟩ := m
  obtain rfl : pc = 3 := hp
  have hst : PM.step μ.L σ ⟨tasks, j, p, sm, 3⟩ = (σ.put (μ.L.manyAt p) tasks.length, { tasks, j, p, x := pushSM 4 p, pc := 4 }) := rfl
  rw [hst]
  clear hst
  simp only [PM.cells, PM.nx] at hc
  have n1 : x ≠ σ.s := by omega
  have n2 : x ≠ σ.sb := by omega
  have hpok := hok.p
  have hlen := hok.len
  simp only at hlen hpok h2
  obtain ⟨p0, p1⟩ := hpok
  have hu : U64 (tasks.length : Int) := ⟨by omega, by omega⟩
  obtain ⟨sa, cap, rfl⟩ := h2.form
  have hb1 : (tasks.length : Int) ≤ 4 := by omega
  have K : ∀ W i', Ext [σ.s, σ.sb, x, x] w W → IsSt W (σ.put (μ.L.manyAt p) tasks.length) → Blk W x (PM.cells ⟨tasks, j, p, pushSM 4 p, 4⟩ μ x (.slice sa tasks.length cap) (.pointer (some ⟨i', 0, none⟩))) 121 →
      w.heap.size ≤ i' → IsSM W μ true i' (pushSM 4 p) → PMPost w μ hi x σ B (σ.put (μ.L.manyAt p) tasks.length) ⟨tasks, j, p, pushSM 4 p, 4⟩ W := fun W i' he hs hW hi' hsm =>
    PM_close E hB hmem h2 h3 he hmem hxt hs ⟨rfl, rfl⟩ hW rfl ⟨hok.tasks, hok.len, hok.p, by simp [pushSM], by simp, hok.j, by simp⟩ (fun _ => ⟨i', rfl, .inr hi', by omega, fun h => by have := h2.lt h; omega, hsm⟩)
  unfold Mp.ptr at hc
  go_enter Try.func165, Try.ntmps165
  go_wp2_with fail
  refine wp_region_rg [0, 0, 0, 0, 0, 0, 0, 0, 0, 0, 0, 0, 0, 0, 0, 0, 2] (by kernel_rfl) (by kernel_rfl) ?_
  repeat (first | (with_reducible refine wpH_tail ?_) | ((with_reducible refine wpH_float (fun K hK => ?_)); go_simp; refine hK _ ?_; clear hK K) | ((with_reducible refine wpH_near (fun K hK => ?_)); go_simp; first | (refine hK _ ?_; clear hK K) | (apply Exists.intro; refine ⟨fun _ => ?_, hK _ ?_⟩; (exact Calls.quiet_of_same ((Many_c (E.map.drewN _) _).mono fun e w' h => ⟨h.1, h.2.symm⟩)); clear hK K)))
  refine wpH_nil ?_
  rintro _ ⟨nq, rfl⟩
  simp only [rgTailOps, Nat.reduceEqDiff, if_true, if_false]
  go_wp2_with (first | (with_reducible refine NoPanic.normal ?_) | (go_at_call 19; refine (Put_c σ _ _ _ (E.st.drewN nq) hu).mono ?_; rintro e w1 ⟨rfl, hs, he⟩; have hx1 := (h1.drewN nq).ext he (by simp [n1, n2]); have hE1 := (E.drewN nq).ext he (by simp) hs rfl rfl; have hc1 := hx1.cells; have hf1 := hx1.free; simp only [PM.cells, PM.nx] at hc1; unfold Mp.ptr at hc1))
  have he0 : Ext [σ.s, σ.sb, x, x] w w1 := ((Ext.refl _ w).drewN nq).trans he (by simp)
  clear hc hf
  go_wp2_with fail
  refine wp_region_rg [1, 0, 0, 0, 0, 0, 0, 0, 0, 0, 0, 0, 0, 0, 0, 2, 2, 2, 2] (by kernel_rfl) (by kernel_rfl) ?_
  repeat (first | (with_reducible refine wpH_tail ?_) | ((with_reducible refine wpH_float (fun K hK => ?_)); go_simp; refine hK _ ?_; clear hK K) | ((with_reducible refine wpH_near (fun K hK => ?_)); go_simp; first | (refine hK _ ?_; clear hK K) | (apply Exists.intro; refine ⟨fun _ => ?_, hK _ ?_⟩; (exact Calls.quiet_of_same ((Pool_c (hE1.map.drewN _)).mono fun e w' h => ⟨h.1, h.2.symm⟩)); clear hK K)))
  refine wpH_nil ?_
  rintro _ ⟨nq, rfl⟩
  simp only [rgTailOps, Nat.reduceEqDiff, if_true, if_false]
  go_wp2_with (first | (with_reducible refine NoPanic.normal ?_) | (go_at_call 99; refine (Push_c' _ _ _ _ _ _ ⟨p0, p1⟩).mono ?_; rintro e w2 ⟨rfl, hq, hz2, he2⟩; have hx2 := (hx1.drewN nq).ext he2 (by simp); have hs2' := (hs.drewN nq).ext he2 (by simp) (by simp); have hc2 := hx2.cells; have hf2 := hx2.free; simp only [PM.cells, PM.nx] at hc2; unfold Mp.ptr at hc2))
  go_end0
  have hsz := he0.size
  have hni : x ≠ (w1.drewN nq).heap.size := by simp only [drewN_size]; omega
  refine ⟨rfl, K _ (w1.drewN nq).heap.size ((((he0.drewN nq).trans he2 (by simp)).setCell _ _ (.inl (by simp))).setCell _ _ (.inl (by simp))) ((hs2'.set _ n1 n2).set _ n1 n2) ((hx2.set 4 _).set 5 _) hsz ⟨(hq.set_ne _ hni).set_ne _ hni, ⟨⟨p0, p1⟩, ⟨Int.le_refl 0, by simp [pushSM]⟩, ⟨Int.le_refl 0, by simp [pushSM]⟩⟩⟩⟩

theorem fill_c (hp : m.pc = 2) : Calls Try.prog 143 #[.pointer (some ⟨x, 0, none⟩), .pointer (some ⟨σ.s, 0, none⟩)] w fun e w' =>
    e = .returned (.tuple #[]) ∧ PMPost w μ hi x σ B (PM.step μ.L σ m).1 (PM.step μ.L σ m).2 w' := by
  obtain ⟨tv, iv, tb, h1, h2, h3, h4⟩ := H.ex
  clear h4
  have hs1 := E.s1
  have hs2 := E.s2
  have hix : hi ≤ x := hB x H.mem
  have hok := H.ok
  have hmem := H.mem
  have hxt : tb ≠ some x := fun h => (h3 x h).2 rfl
  have hj := H.ok.j2 (.inr hp)
  clear H
  obtain ⟨tasks, j, p, sm, pc⟩ := m
  obtain rfl : pc = 2 := hp
  obtain ⟨q, hq⟩ : ∃ q : Nat, q = if j + 1 = tasks.length then 3 else 2 := ⟨_, rfl⟩
  have hst : PM.step μ.L σ ⟨tasks, j, p, sm, 2⟩ = (σ.put (μ.L.task p j) (tasks.getD j 0), { tasks, j := j + 1, p, x := sm, pc := q }) := by rw [hq]; rfl
  rw [hst]
  clear hst
  have hc := h1.cells
  have hf := h1.free
  have n1 : x ≠ σ.s := by omega
  have n2 : x ≠ σ.sb := by omega
  have hlen := hok.len
  have hu : U64 (tasks.getD j 0) := hok.tasks _ (getD_mem _ _ hj)
  simp only at hlen hj h2
  have hb1 : (tasks.length : Int) ≤ 4 := by omega
  have K : ∀ W, Ext [σ.s, σ.sb, x, x] w W → IsSt W (σ.put (μ.L.task p j) (tasks.getD j 0)) → Blk W x (PM.cells ⟨tasks, j + 1, p, sm, q⟩ μ x tv iv) 121 →
      PMPost w μ hi x σ B (σ.put (μ.L.task p j) (tasks.getD j 0)) ⟨tasks, j + 1, p, sm, q⟩ W := fun W he hs hW =>
    PM_close E hB hmem h2 h3 he hmem hxt hs ⟨rfl, rfl⟩ hW rfl ⟨hok.tasks, hok.len, hok.p, hok.x, by simp only; rw [hq]; split <;> omega, by simp only; omega, fun h => by simp only at h; rw [hq] at h; simp only; split at h <;> omega⟩ (fun h => by simp only at h; rw [hq] at h; split at h <;> omega)
  obtain ⟨sa, cap, rfl, htb⟩ : ∃ g cap, tv = .slice (some ⟨g, 0, none⟩) tasks.length cap ∧ tb = some g := by
    obtain ⟨_, k⟩ := h2
    cases tb with
    | none => omega
    | some g => obtain ⟨cap, spare, e, _⟩ := k; exact ⟨g, cap, e, rfl⟩
  have hcell : w.cell? ⟨sa, j, none⟩ = some (.int .u64 (tasks.getD j 0)) := by
    obtain ⟨_, k⟩ := h2
    subst htb
    obtain ⟨cap', spare, e, hB', _⟩ := k
    rw [hB'.cells, List.getElem?_append_left (by simpa using hj), u64s_get _ _ hj]
  clear htb h2
  have HQ := Lib.hid hq
  clear hq
  generalize tasks.getD j 0 = tv at hcell hu K ⊢
  have hj1 : (j : Int) < (tasks.length : Int) := by omega
  have hj2 : (0 : Int) ≤ (j : Int) := by omega
  simp only [PM.cells, PM.nx] at hc
  unfold Mp.ptr at hc
  have ej : Value.int IntKind.i64 ((j : Int) + 1) = .int .i64 ((j + 1 : Nat) : Int) := by simp
  have EJ := Lib.hid ej
  clear ej
  by_cases hl : j + 1 = tasks.length
  · have hl' : ((j : Int) + 1 == (tasks.length : Int)) = true := by rw [beq_iff_eq]; omega
    have hq3 : q = 3 := by rw [HQ.out, if_pos hl]
    subst hq3
    clear hl HQ
    go_enter Try.func143, Try.ntmps143
    go_wp2_with fail
    refine wp_region_rg [0, 0, 0, 0, 0, 0, 0, 0, 0, 0, 0, 0, 0, 0, 0, 0, 0, 0, 0, 0, 0, 0, 0, 0, 2] (by kernel_rfl) (by kernel_rfl) ?_
    repeat (first | (with_reducible refine wpH_tail ?_) | ((with_reducible refine wpH_float (fun K hK => ?_)); go_simp; refine hK _ ?_; clear hK K) | ((with_reducible refine wpH_near (fun K hK => ?_)); go_simp; first | (refine hK _ ?_; clear hK K) | (apply Exists.intro; refine ⟨fun _ => ?_, hK _ ?_⟩; (exact Calls.quiet_of_same ((Task_c (E.map.drewN _) _ _).mono fun e w' h => ⟨h.1, h.2.symm⟩)); clear hK K)))
    refine wpH_nil ?_
    rintro _ ⟨nq, rfl⟩
    simp only [rgTailOps, Nat.reduceEqDiff, if_true, if_false]
    go_wp2_with (first | (with_reducible refine NoPanic.normal ?_) | (go_at_call 19; refine (Put_c σ _ _ _ (E.st.drewN nq) hu).mono ?_; rintro e w1 ⟨rfl, hs, he⟩; have hx1 := (h1.drewN nq).ext he (by simp [n1, n2]); have hc1 := hx1.cells; have hf1 := hx1.free; simp only [PM.cells, PM.nx] at hc1; unfold Mp.ptr at hc1))
    go_quiet (fail)
    go_wp2
    go_end0
    exact ⟨rfl, K _ ((((((Ext.refl _ w).drewN _).trans he (by simp)).setCell _ _ (.inl (by simp))).drewN nq).setCell _ _ (.inl (by simp))) (((hs.set _ n1 n2).drewN nq).set _ n1 n2) ((((hx1.set 2 _).drewN nq).set 5 _).congr (by rw [EJ.out]; rfl))⟩
  · have hl' : ((j : Int) + 1 == (tasks.length : Int)) = false := by rw [beq_eq_false_iff_ne]; omega
    have hq3 : q = 2 := by rw [HQ.out, if_neg hl]
    subst hq3
    clear hl HQ
    go_enter Try.func143, Try.ntmps143
    go_wp2_with fail
    refine wp_region_rg [0, 0, 0, 0, 0, 0, 0, 0, 0, 0, 0, 0, 0, 0, 0, 0, 0, 0, 0, 0, 0, 0, 0, 0, 2] (by kernel_rfl) (by kernel_rfl) ?_
    repeat (first | (with_reducible refine wpH_tail ?_) | ((with_reducible refine wpH_float (fun K hK => ?_)); go_simp; refine hK _ ?_; clear hK K) | ((with_reducible refine wpH_near (fun K hK => ?_)); go_simp; first | (refine hK _ ?_; clear hK K) | (apply Exists.intro; refine ⟨fun _ => ?_, hK _ ?_⟩; (exact Calls.quiet_of_same ((Task_c (E.map.drewN _) _ _).mono fun e w' h => ⟨h.1, h.2.symm⟩)); clear hK K)))
    refine wpH_nil ?_
    rintro _ ⟨nq, rfl⟩
    simp only [rgTailOps, Nat.reduceEqDiff, if_true, if_false]
    go_wp2_with (first | (with_reducible refine NoPanic.normal ?_) | (go_at_call 19; refine (Put_c σ _ _ _ (E.st.drewN nq) hu).mono ?_; rintro e w1 ⟨rfl, hs, he⟩; have hx1 := (h1.drewN nq).ext he (by simp [n1, n2]); have hc1 := hx1.cells; have hf1 := hx1.free; simp only [PM.cells, PM.nx] at hc1; unfold Mp.ptr at hc1))
    go_quiet (fail)
    go_wp2
    go_end0
    exact ⟨rfl, K _ (((((Ext.refl _ w).drewN _).trans he (by simp)).setCell _ _ (.inl (by simp))).drewN nq) ((hs.set _ n1 n2).drewN nq) (((hx1.set 2 _).drewN nq).congr (by rw [EJ.out]; rfl))⟩

theorem spare_c (hp : m.pc = 1) : Calls Try.prog 89 #[.pointer (some ⟨x, 0, none⟩), .pointer (some ⟨σ.s, 0, none⟩)] w fun e w' =>
    e = .returned (.tuple #[]) ∧ PMPost w μ hi x σ B (PM.step μ.L σ m).1 (PM.step μ.L σ m).2 w' := by
  obtain ⟨tv, iv, tb, h1, h2, h3, h4⟩ := H.ex
  obtain ⟨i, rfl, hi1, hi2, hi3, h5⟩ := h4 (.inl hp)
  clear h4
  have hs1 := E.s1
  have hs2 := E.s2
  have hix : hi ≤ x := hB x H.mem
  have hii : hi ≤ i := hB i hi1
  have hS := SMStep_c E.st h5 (by omega) (by omega) E.map H.ok.x
  have hpc := SM.step_pc (lk := lk μ true) (σ := σ) H.ok.x
  have hso := SM.step_ok (lk := lk μ true) E.st h5.ok
  have hes := Lib.hid (And.intro (SM.step_s (lk μ true) σ m.x) (SM.step_sb (lk μ true) σ m.x))
  have hok := H.ok
  have hmem := H.mem
  have hc := h1.cells
  have hf := h1.free
  have hxl := h1.lt
  clear H
  obtain ⟨tasks, j, p, sm, pc⟩ := m
  obtain rfl : pc = 1 := hp
  have hst : PM.step μ.L σ ⟨tasks, j, p, sm, 1⟩ = (let q := SM.step (lk μ true) σ sm
    if q.2.pc = 0 then
      if q.2.item = 0 then (q.1, { tasks, j, p := 0, x := popSM 5, pc := 1 }) else (q.1, { tasks, j, p := q.2.item, x := q.2, pc := 2 })
    else (q.1, { tasks, j, p, x := q.2, pc := 1 })) := rfl
  rw [hst]
  clear hst
  simp only [PM.cells, PM.nx] at hc
  unfold Mp.ptr at hc
  simp only at hS hpc hes hso
  generalize SM.step (lk μ true) σ sm = q at hS hpc hes hso ⊢
  obtain ⟨σ', sm'⟩ := q
  simp only at hS hpc hes hso ⊢
  have hm := method_step ⟨i, 0, none⟩
  have n1 : x ≠ σ'.s := by rw [hes.out.1]; omega
  have n2 : x ≠ σ'.sb := by rw [hes.out.2]; omega
  have hio := hso.item
  have K3 : ∀ W, Ext [σ.s, σ.sb, x, i] w W → IsSt W σ' → IsSM W μ true i sm' → Blk W x (PM.cells ⟨tasks, j, p, sm', 1⟩ μ x tv (.pointer (some ⟨i, 0, none⟩))) 121 →
      PMPost w μ hi x σ B σ' ⟨tasks, j, p, sm', 1⟩ W := fun W he hs hsm hW =>
    PM_close E hB hmem h2 h3 he hi1 hi3 hs hes.out hW rfl ⟨hok.tasks, hok.len, hok.p, hpc, by simp, hok.j, fun _ => hok.j2 (.inl rfl)⟩ (fun _ => ⟨i, rfl, .inl hi1, hi2, hi3, hsm⟩)
  have hj := hok.j2 (.inl rfl)
  simp only at hj
  have K2 : ∀ W, Ext [σ.s, σ.sb, x, i] w W → IsSt W σ' → Blk W x (PM.cells ⟨tasks, j, sm'.item, sm', 2⟩ μ x tv (.pointer (some ⟨i, 0, none⟩))) 121 →
      PMPost w μ hi x σ B σ' ⟨tasks, j, sm'.item, sm', 2⟩ W := fun W he hs hW =>
    PM_close E hB hmem h2 h3 he hi1 hi3 hs hes.out hW rfl ⟨hok.tasks, hok.len, hso.item, hpc, by simp, hok.j, fun _ => hj⟩ (by simp)
  have K1 : ∀ W i', Ext [σ.s, σ.sb, x, i] w W → IsSt W σ' → Blk W x (PM.cells ⟨tasks, j, 0, popSM 5, 1⟩ μ x tv (.pointer (some ⟨i', 0, none⟩))) 121 → w.heap.size ≤ i' → IsSM W μ true i' (popSM 5) →
      PMPost w μ hi x σ B σ' ⟨tasks, j, 0, popSM 5, 1⟩ W := fun W i' he hs hW hi' hsm =>
    PM_close E hB hmem h2 h3 he hi1 hi3 hs hes.out hW rfl ⟨hok.tasks, hok.len, ⟨Int.le_refl 0, by simp⟩, by simp [popSM], by simp, hok.j, fun _ => hj⟩ (fun _ => ⟨i', rfl, .inr hi', by omega, fun h => by have := h2.lt h; omega, hsm⟩)
  have ES := Lib.hid hes.out
  clear hes
  by_cases hz : sm'.pc = 0
  · by_cases hi0 : sm'.item = 0
    · simp only [hz, hi0, decide_true, if_true] at hS ⊢
      have HS := Lib.hid hS
      clear hS
      have HZ := Lib.hid hz
      have HI := Lib.hid hi0
      clear hz hi0
      go_enter Try.func89, Try.ntmps89
      go_wp2_with (first | (go_at_call 141; go_in) | (go_at_call 222; refine HS.out.mono ?_; rintro e w1 ⟨rfl, hs, hsm, he⟩; have hx1 := h1.ext he (by simp; omega); have hc1 := hx1.cells; have hf1 := hx1.free; simp only [PM.cells, PM.nx] at hc1; unfold Mp.ptr at hc1) | (go_at_call 142; have hI := Item_c hsm HZ.out; rw [HI.out] at hI; refine hI.mono ?_; clear hI; rintro e w2 ⟨rfl, rfl⟩))
      have hE1 := E.ext (S := [σ.s, σ.sb, i, x]) (((he.mono (S' := [σ.s, σ.sb, i, x]) (by simp)).setCell ⟨x, 3, none⟩ (.int .i64 0) (.inl (by simp))).setCell ⟨x, 5, none⟩ (PM.nx x 2) (.inl (by simp))) (fun g hg => by simp only [List.mem_cons, List.not_mem_nil, or_false] at hg; rcases hg with rfl | rfl | rfl | rfl <;> omega) ((hs.set _ n1 n2).set _ n1 n2) ES.out.1 ES.out.2
      have hx2 := (hx1.set 3 (.int .i64 0)).set 5 (PM.nx x 2)
      simp only [PM.nx] at hE1 hx2
      go_wp2_with fail
      refine wp_region_rg [1, 0, 0, 0, 0, 0, 0, 0, 0, 0, 0, 2, 2, 2, 2] (by kernel_rfl) (by kernel_rfl) ?_
      repeat (first | (with_reducible refine wpH_tail ?_) | ((with_reducible refine wpH_float (fun K hK => ?_)); go_simp; refine hK _ ?_; clear hK K) | ((with_reducible refine wpH_near (fun K hK => ?_)); go_simp; first | (refine hK _ ?_; clear hK K) | (apply Exists.intro; refine ⟨fun _ => ?_, hK _ ?_⟩; (exact Calls.quiet_of_same ((Spare_c (hE1.map.drewN _)).mono fun e w' h => ⟨h.1, h.2.symm⟩)); clear hK K)))
      refine wpH_nil ?_
      rintro _ ⟨nq, rfl⟩
      simp only [rgTailOps, Nat.reduceEqDiff, if_true, if_false]
      go_wp2_with (first | (with_reducible refine NoPanic.normal ?_) | (go_at_call 87; refine (Pop_c' _ _ _ _ _).mono ?_; rintro e w2 ⟨rfl, hq, hz2, he2⟩; have hx3 := (hx2.drewN nq).ext he2 (by simp); have hs3 := (hE1.st.drewN nq).ext he2 (by simp) (by simp); have hc3 := hx3.cells; have hf3 := hx3.free; simp only [PM.cells, PM.nx, List.set] at hc3))
      go_end0
      have hsz := he.size
      have hsz2 : (((w1.setCell ⟨x, 3, none⟩ (.int .i64 0)).setCell ⟨x, 5, none⟩ (PM.nx x 2)).drewN nq).heap.size = w1.heap.size := by simp [drewN_size]
      simp only [PM.nx] at hsz2
      rw [hsz2] at hq
      have hni : x ≠ w1.heap.size := by omega
      refine ⟨rfl, K1 _ w1.heap.size (((((((he.mono (S' := [σ.s, σ.sb, x, i]) (by simp)).setCell ⟨x, 3, none⟩ (.int .i64 0) (.inl (by simp))).setCell ⟨x, 5, none⟩ (PM.nx x 2) (.inl (by simp))).drewN nq).trans he2 (by simp)).setCell _ _ (.inl (by simp))).setCell _ _ (.inl (by simp))) ((hs3.set _ n1 n2).set _ n1 n2) ?_ hsz ⟨(hq.set_ne _ hni).set_ne _ hni, ⟨⟨Int.le_refl 0, by simp [popSM]⟩, ⟨Int.le_refl 0, by simp [popSM]⟩, ⟨Int.le_refl 0, by simp [popSM]⟩⟩⟩⟩
      exact (hx3.set 4 _).set 5 _
    · have hib : (sm'.item == 0) = false := by simpa using hi0
      simp only [hz, hi0, decide_true, if_true, if_false] at hS ⊢
      have HS := Lib.hid hS
      clear hS
      have HZ := Lib.hid hz
      clear hz hi0
      go_enter Try.func89, Try.ntmps89
      go_wp2_with (first | (go_at_call 141; go_in) | (go_at_call 222; refine HS.out.mono ?_; rintro e w1 ⟨rfl, hs, hsm, he⟩; have hx1 := h1.ext he (by simp; omega); have hc1 := hx1.cells; have hf1 := hx1.free; simp only [PM.cells, PM.nx] at hc1; unfold Mp.ptr at hc1) | (go_at_call 142; refine (Item_c hsm HZ.out).mono ?_; rintro e w2 ⟨rfl, rfl⟩))
      go_end0
      exact ⟨rfl, K2 _ (((he.mono (by simp)).setCell _ _ (.inl (by simp))).setCell _ _ (.inl (by simp))) ((hs.set _ n1 n2).set _ n1 n2) ((hx1.set 3 _).set 5 _)⟩
  · simp only [hz, decide_false, if_false] at hS ⊢
    have HS := Lib.hid hS
    clear hS hz
    go_enter Try.func89, Try.ntmps89
    go_wp2_with (first | (go_at_call 141; go_in) | (go_at_call 222; refine HS.out.mono ?_; rintro e w1 ⟨rfl, hs, hsm, he⟩; have hx1 := h1.ext he (by simp; omega); have hc1 := hx1.cells; have hf1 := hx1.free; simp only [PM.cells, PM.nx] at hc1; unfold Mp.ptr at hc1))
    refine bodyPost_ret (results_none rfl _ _ _) rfl ?_
    exact ⟨rfl, K3 _ (he.mono (by simp)) hs hsm hx1⟩

omit E hB in
theorem PMStep_0 (hp : m.pc = 0) (s : Value) : Calls Try.prog 29 #[.pointer (some ⟨x, 0, none⟩), s] w fun e w' => e = .returned (.bool true) ∧ w = w' := by
  obtain ⟨tv, iv, tb, h1, h2, h3, h4⟩ := H.ex
  obtain ⟨tasks, j, p, sm, pc⟩ := m
  obtain rfl : pc = 0 := hp
  have hc := h1.cells
  simp only [PM.cells, PM.nx] at hc
  clear H h1 h4
  go_enter Try.func29, Try.ntmps29
  go_wp2
  go_ret
  exact ⟨rfl, rfl⟩

theorem PMStep_1 (hp : m.pc = 1) : Calls Try.prog 29 #[.pointer (some ⟨x, 0, none⟩), .pointer (some ⟨σ.s, 0, none⟩)] w fun e w' =>
    e = .returned (.bool (decide ((PM.step μ.L σ m).2.pc = 0))) ∧ PMPost w μ hi x σ B (PM.step μ.L σ m).1 (PM.step μ.L σ m).2 w' := by
  obtain ⟨tv, iv, tb, h1, h2, h3, h4⟩ := H.ex
  have HC := Lib.hid (spare_c E H hB hp)
  have hc := h1.cells
  have hpc := PM.step_pc μ.L σ m H.ok.pc
  clear H h2 h3 h4
  obtain ⟨tasks, j, p, sm, pc⟩ := m
  obtain rfl : pc = 1 := hp
  simp only [PM.cells, PM.nx] at hc
  generalize PM.step μ.L σ ⟨tasks, j, p, sm, 1⟩ = q at HC hpc ⊢
  obtain ⟨σ', m'⟩ := q
  simp only at HC hpc ⊢
  obtain ⟨tasks', j', p', sm', pc'⟩ := m'
  simp only at hpc
  by_cases hz : pc' = 0
  · subst hz
    simp only [decide_true]
    go_enter Try.func29, Try.ntmps29
    go_wp2_with (go_at_call 89; refine HC.out.mono ?_; rintro e w1 ⟨rfl, hP⟩; obtain ⟨tv1, iv1, tb1, g1, _⟩ := hP.2.choose_spec.1.ex; have hc1 := g1.cells; simp only [PM.cells, PM.nx] at hc1)
    go_ret
    exact ⟨rfl, hP⟩
  · simp only [hz, decide_false]
    obtain ⟨fn, hfn⟩ := PM.nx_func x pc' hz hpc
    have HF := Lib.hid hfn
    clear hfn hz
    go_enter Try.func29, Try.ntmps29
    go_wp2_with (go_at_call 89; refine HC.out.mono ?_; rintro e w1 ⟨rfl, hP⟩; obtain ⟨tv1, iv1, tb1, g1, _⟩ := hP.2.choose_spec.1.ex; have hc1 := g1.cells; simp only [PM.cells] at hc1; rw [HF.out] at hc1)
    go_ret
    exact ⟨rfl, hP⟩

theorem PMStep_2 (hp : m.pc = 2) : Calls Try.prog 29 #[.pointer (some ⟨x, 0, none⟩), .pointer (some ⟨σ.s, 0, none⟩)] w fun e w' =>
    e = .returned (.bool (decide ((PM.step μ.L σ m).2.pc = 0))) ∧ PMPost w μ hi x σ B (PM.step μ.L σ m).1 (PM.step μ.L σ m).2 w' := by
  obtain ⟨tv, iv, tb, h1, h2, h3, h4⟩ := H.ex
  have HC := Lib.hid (fill_c E H hB hp)
  have hc := h1.cells
  have hpc := PM.step_pc μ.L σ m H.ok.pc
  clear H h2 h3 h4
  obtain ⟨tasks, j, p, sm, pc⟩ := m
  obtain rfl : pc = 2 := hp
  simp only [PM.cells, PM.nx] at hc
  generalize PM.step μ.L σ ⟨tasks, j, p, sm, 2⟩ = q at HC hpc ⊢
  obtain ⟨σ', m'⟩ := q
  simp only at HC hpc ⊢
  obtain ⟨tasks', j', p', sm', pc'⟩ := m'
  simp only at hpc
  by_cases hz : pc' = 0
  · subst hz
    simp only [decide_true]
    go_enter Try.func29, Try.ntmps29
    go_wp2_with (go_at_call 143; refine HC.out.mono ?_; rintro e w1 ⟨rfl, hP⟩; obtain ⟨tv1, iv1, tb1, g1, _⟩ := hP.2.choose_spec.1.ex; have hc1 := g1.cells; simp only [PM.cells, PM.nx] at hc1)
    go_ret
    exact ⟨rfl, hP⟩
  · simp only [hz, decide_false]
    obtain ⟨fn, hfn⟩ := PM.nx_func x pc' hz hpc
    have HF := Lib.hid hfn
    clear hfn hz
    go_enter Try.func29, Try.ntmps29
    go_wp2_with (go_at_call 143; refine HC.out.mono ?_; rintro e w1 ⟨rfl, hP⟩; obtain ⟨tv1, iv1, tb1, g1, _⟩ := hP.2.choose_spec.1.ex; have hc1 := g1.cells; simp only [PM.cells] at hc1; rw [HF.out] at hc1)
    go_ret
    exact ⟨rfl, hP⟩

theorem PMStep_3 (hp : m.pc = 3) : Calls Try.prog 29 #[.pointer (some ⟨x, 0, none⟩), .pointer (some ⟨σ.s, 0, none⟩)] w fun e w' =>
    e = .returned (.bool (decide ((PM.step μ.L σ m).2.pc = 0))) ∧ PMPost w μ hi x σ B (PM.step μ.L σ m).1 (PM.step μ.L σ m).2 w' := by
  obtain ⟨tv, iv, tb, h1, h2, h3, h4⟩ := H.ex
  have HC := Lib.hid (many_c E H hB hp)
  have hc := h1.cells
  have hpc := PM.step_pc μ.L σ m H.ok.pc
  clear H h2 h3 h4
  obtain ⟨tasks, j, p, sm, pc⟩ := m
  obtain rfl : pc = 3 := hp
  simp only [PM.cells, PM.nx] at hc
  generalize PM.step μ.L σ ⟨tasks, j, p, sm, 3⟩ = q at HC hpc ⊢
  obtain ⟨σ', m'⟩ := q
  simp only at HC hpc ⊢
  obtain ⟨tasks', j', p', sm', pc'⟩ := m'
  simp only at hpc
  by_cases hz : pc' = 0
  · subst hz
    simp only [decide_true]
    go_enter Try.func29, Try.ntmps29
    go_wp2_with (go_at_call 165; refine HC.out.mono ?_; rintro e w1 ⟨rfl, hP⟩; obtain ⟨tv1, iv1, tb1, g1, _⟩ := hP.2.choose_spec.1.ex; have hc1 := g1.cells; simp only [PM.cells, PM.nx] at hc1)
    go_ret
    exact ⟨rfl, hP⟩
  · simp only [hz, decide_false]
    obtain ⟨fn, hfn⟩ := PM.nx_func x pc' hz hpc
    have HF := Lib.hid hfn
    clear hfn hz
    go_enter Try.func29, Try.ntmps29
    go_wp2_with (go_at_call 165; refine HC.out.mono ?_; rintro e w1 ⟨rfl, hP⟩; obtain ⟨tv1, iv1, tb1, g1, _⟩ := hP.2.choose_spec.1.ex; have hc1 := g1.cells; simp only [PM.cells] at hc1; rw [HF.out] at hc1)
    go_ret
    exact ⟨rfl, hP⟩

theorem PMStep_4 (hp : m.pc = 4) : Calls Try.prog 29 #[.pointer (some ⟨x, 0, none⟩), .pointer (some ⟨σ.s, 0, none⟩)] w fun e w' =>
    e = .returned (.bool (decide ((PM.step μ.L σ m).2.pc = 0))) ∧ PMPost w μ hi x σ B (PM.step μ.L σ m).1 (PM.step μ.L σ m).2 w' := by
  obtain ⟨tv, iv, tb, h1, h2, h3, h4⟩ := H.ex
  have HC := Lib.hid (last_c E H hB hp)
  have hc := h1.cells
  have hpc := PM.step_pc μ.L σ m H.ok.pc
  clear H h2 h3 h4
  obtain ⟨tasks, j, p, sm, pc⟩ := m
  obtain rfl : pc = 4 := hp
  simp only [PM.cells, PM.nx] at hc
  generalize PM.step μ.L σ ⟨tasks, j, p, sm, 4⟩ = q at HC hpc ⊢
  obtain ⟨σ', m'⟩ := q
  simp only at HC hpc ⊢
  obtain ⟨tasks', j', p', sm', pc'⟩ := m'
  simp only at hpc
  by_cases hz : pc' = 0
  · subst hz
    simp only [decide_true]
    go_enter Try.func29, Try.ntmps29
    go_wp2_with (go_at_call 100; refine HC.out.mono ?_; rintro e w1 ⟨rfl, hP⟩; obtain ⟨tv1, iv1, tb1, g1, _⟩ := hP.2.choose_spec.1.ex; have hc1 := g1.cells; simp only [PM.cells, PM.nx] at hc1)
    go_ret
    exact ⟨rfl, hP⟩
  · simp only [hz, decide_false]
    obtain ⟨fn, hfn⟩ := PM.nx_func x pc' hz hpc
    have HF := Lib.hid hfn
    clear hfn hz
    go_enter Try.func29, Try.ntmps29
    go_wp2_with (go_at_call 100; refine HC.out.mono ?_; rintro e w1 ⟨rfl, hP⟩; obtain ⟨tv1, iv1, tb1, g1, _⟩ := hP.2.choose_spec.1.ex; have hc1 := g1.cells; simp only [PM.cells] at hc1; rw [HF.out] at hc1)
    go_ret
    exact ⟨rfl, hP⟩

theorem PMStep_c : Calls Try.prog 29 #[.pointer (some ⟨x, 0, none⟩), .pointer (some ⟨σ.s, 0, none⟩)] w fun e w' =>
    e = .returned (.bool (decide ((PM.step μ.L σ m).2.pc = 0))) ∧ PMPost w μ hi x σ B (PM.step μ.L σ m).1 (PM.step μ.L σ m).2 w' := by
  have hp := H.ok.pc
  have h : m.pc = 0 ∨ m.pc = 1 ∨ m.pc = 2 ∨ m.pc = 3 ∨ m.pc = 4 := by omega
  rcases h with h | h | h | h | h
  · refine (PMStep_0 H h _).mono ?_
    rintro e w' ⟨rfl, rfl⟩
    have e1 : PM.step μ.L σ m = (σ, m) := by unfold PM.step; rw [h]; rfl
    rw [e1]
    exact ⟨by simp [h], E, B, H, Ext.refl _ _, fun g hg => .inl hg⟩
  · exact PMStep_1 E H hB h
  · exact PMStep_2 E H hB h
  · exact PMStep_3 E H hB h
  · exact PMStep_4 E H hB h
end
end Go.Proofs.Ytcgnficlcgmffaa
