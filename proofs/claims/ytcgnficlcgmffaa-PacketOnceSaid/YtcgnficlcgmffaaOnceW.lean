/-
  Law PacketOnce: its world.
-/
import Derived.Test.YtcgnficlcgmffaaOnce
import Derived.Test.YtcgnficlcgmffaaAwk11
import Derived.Test.YtcgnficlcgmffaaSmall
namespace Go.Proofs.Ytcgnficlcgmffaa
open Go.RowKit

def l3 {α : Type} (f : Nat → α) : List α := [f 0, f 1, f 2]
theorem l3_get {α : Type} (f : Nat → α) {k : Nat} (h : k < 3) : (l3 f)[k]? = some (f k) := by
  have : k = 0 ∨ k = 1 ∨ k = 2 := by omega
  rcases this with rfl | rfl | rfl <;> rfl
theorem l3_set {α : Type} (f : Nat → α) {k : Nat} (h : k < 3) (v : α) : (l3 f).set k v = l3 (upd f k v) := by
  have : k = 0 ∨ k = 1 ∨ k = 2 := by omega
  rcases this with rfl | rfl | rfl <;> rfl
theorem l3_congr {α : Type} {f g : Nat → α} (h : ∀ j, f j = g j) : l3 f = l3 g := by rw [show f = g from funext h]
theorem upd_id {α : Type} (f : Nat → α) (k : Nat) : upd f k (f k) = f := by
  funext j; unfold upd; split
  · rename_i h; rw [h]
  · rfl
def ptrOf (o : Option OA) (x : Nat) : Value := .pointer (o.map fun _ => ⟨x, 0, none⟩)
/-- Where the law's own lists lie. -/
structure OB where
  (s sb hi bw bk bh bs : Nat)
structure OB.Ok (b : OB) (μ : Mp) : Prop where
  lt : b.bw < b.hi ∧ b.bk < b.hi ∧ b.bh < b.hi ∧ b.bs < b.hi
  ne : b.bw ≠ b.bk ∧ b.bw ≠ b.bh ∧ b.bw ≠ b.bs ∧ b.bk ≠ b.bh ∧ b.bk ≠ b.bs ∧ b.bh ≠ b.bs
  nm : ∀ g, (g = b.bw ∨ g = b.bk ∨ g = b.bh ∨ g = b.bs) → g ≠ μ.m ∧ g ≠ μ.ab ∧ g ≠ μ.rb
  ns : b.bw ≠ b.s ∧ b.bw ≠ b.sb ∧ b.bk ≠ b.s ∧ b.bk ≠ b.sb ∧ b.bh ≠ b.s ∧ b.bh ≠ b.sb ∧ b.bs ≠ b.s ∧ b.bs ≠ b.sb
structure OW (w : World) (μ : Mp) (b : OB) (S : OS) (K : Nat → Int) (W : World) : Prop where
  env : ∃ σ, Env W μ σ b.hi ∧ σ.mem = S.mem ∧ σ.s = b.s ∧ σ.sb = b.sb
  work : ∃ X : Nat → Nat × List Nat, Blk W b.bw (l3 fun k => ptrOf (S.w k) (X k).1) 37 ∧
    (∀ k, k < 3 → ∀ a, S.w k = some a → IsPM W μ (X k).1 (X k).2 a.m ∧ ∀ g ∈ (X k).2, b.hi ≤ g ∧ g < W.heap.size) ∧
    ∀ j k, j < 3 → k < 3 → j ≠ k → S.w j ≠ none → S.w k ≠ none → ∀ g ∈ (X j).2, g ∉ (X k).2
  kind : Blk W b.bk (i64s (l3 K)) 3
  kinds : ∀ k, k < 3 → ∀ a, S.w k = some a → K k = a.kind
  has : Blk W b.bh (i64s (l3 S.has)) 3
  seen : Blk W b.bs (i64s S.seen) 3
  ext : Ext [] w W
  ok : b.Ok μ
  new : w.heap.size ≤ b.s ∧ w.heap.size ≤ b.sb ∧ w.heap.size ≤ b.hi ∧ w.heap.size ≤ b.bw ∧ w.heap.size ≤ b.bk ∧ w.heap.size ≤ b.bh ∧ w.heap.size ≤ b.bs

section
variable {w : World} {μ : Mp} {b : OB} {S : OS} {K : Nat → Int} {W : World}
theorem OW.map (H : OW w μ b S K W) : IsMap W μ := by obtain ⟨σ, E, _⟩ := H.env; exact E.map
theorem OW.same {S' : OS} (H : OW w μ b S K W) (h1 : S'.mem = S.mem) (h2 : S'.w = S.w) (h3 : S'.has = S.has) (h4 : S'.seen = S.seen) : OW w μ b S' K W := by
  obtain ⟨a1, a2, a3, a4, a5, a6, a7, a8, a9⟩ := H
  exact ⟨by rw [h1]; exact a1, by rw [h2]; exact a2, a3, by rw [h2]; exact a4, by rw [h3]; exact a5, by rw [h4]; exact a6, a7, a8, a9⟩
/-- Draws, and what is made besides. -/
theorem OW.ext0 {W' : World} (H : OW w μ b S K W) (he : Ext [] W W') : OW w μ b S K W' := by
  obtain ⟨⟨σ, E, e1, e2, e3⟩, ⟨X, h1, h2, h3⟩, h4, h5, h6, h7, h8, h9, h10⟩ := H
  exact ⟨⟨σ, E.ext0 he (by simp), e1, e2, e3⟩, ⟨X, h1.ext he (by simp), fun k hk a ha => ⟨(h2 k hk a ha).1.ext he (by simp), fun g hg => ⟨((h2 k hk a ha).2 g hg).1, Nat.lt_of_lt_of_le ((h2 k hk a ha).2 g hg).2 he.size⟩⟩, h3⟩, h4.ext he (by simp), h5, h6.ext he (by simp), h7.ext he (by simp), h8.trans he (by simp), h9, h10⟩
/-- A step of actor k's machine. -/
theorem OW.step (H : OW w μ b S K W) {k : Nat} (hk : k < 3) {a : OA} (ha : S.w k = some a) : ∃ x, W.cell? ⟨b.bw, k, none⟩ = some (.pointer (some ⟨x, 0, none⟩)) ∧
    Calls Try.prog 29 #[.pointer (some ⟨x, 0, none⟩), .pointer (some ⟨b.s, 0, none⟩)] W fun e w' => e = .returned (.bool (decide ((PM.on μ.L (S.mem, a.m)).2.pc = 0))) ∧
      OW w μ b { S with mem := (PM.on μ.L (S.mem, a.m)).1, w := upd S.w k (some ⟨a.kind, (PM.on μ.L (S.mem, a.m)).2⟩) } K w' ∧ w'.cell? ⟨b.bw, k, none⟩ = some (.pointer (some ⟨x, 0, none⟩)) := by
  obtain ⟨⟨σ, E, e1, e2, e3⟩, ⟨X, h1, h2, h3⟩, h4, h5, h6, h7, h8, h9, h10⟩ := H
  obtain ⟨P, hB⟩ := h2 k hk a ha
  have hc : W.cell? ⟨b.bw, k, none⟩ = some (.pointer (some ⟨(X k).1, 0, none⟩)) := by
    rw [h1.cells, l3_get _ hk]; simp only [ptrOf, ha, Option.map_some]
  refine ⟨(X k).1, hc, ?_⟩
  have hS := PMStep_c E P (fun g hg => (hB g hg).1)
  rw [e2] at hS
  refine hS.mono ?_
  have hs := PM.on_step μ.L σ a.m
  rw [e1] at hs
  rw [← hs]
  have hst := PM.step_s μ.L σ a.m
  rintro e w' ⟨rfl, E', B', P', he, hB'⟩
  obtain ⟨B2, P2, hB2⟩ := P'.trim
  simp only
  have hlow : ∀ g, g < b.hi → g ≠ b.s → g ≠ b.sb → g ∉ σ.s :: σ.sb :: (X k).2 := fun g hg n1 n2 hm => by
    simp only [List.mem_cons] at hm
    rcases hm with h | h | h
    · exact n1 (h.trans e2)
    · exact n2 (h.trans e3)
    · have := (hB g h).1; omega
  obtain ⟨l1, l2, l3', l4⟩ := h9.lt
  obtain ⟨n1, n2, n3, n4, n5, n6, n7, n8⟩ := h9.ns
  have hwB : Blk w' b.bw (l3 fun j => ptrOf (upd S.w k (some (⟨a.kind, (PM.step μ.L σ a.m).2⟩ : OA)) j) ((upd X k ((X k).1, B2)) j).1) 37 := by
    refine (h1.ext he (hlow _ l1 n1 n2)).congr (l3_congr fun j => ?_)
    by_cases e : j = k
    · subst e; rw [upd_same, upd_same, ha]; rfl
    · rw [upd_ne e, upd_ne e]
  refine ⟨trivial, ⟨⟨_, E', rfl, hst.1.trans e2, hst.2.trans e3⟩, ⟨upd X k ((X k).1, B2), hwB, fun j hj c hc => ?_, fun i j hi hj hij ni nj g hg => ?_⟩, h4.ext he (hlow _ l2 n3 n4), fun j hj c hc => ?_, h6.ext he (hlow _ l3' n5 n6), h7.ext he (hlow _ l4 n7 n8), h8.trans he (fun g hg => ?_), h9, h10⟩, ?_⟩
  · by_cases e : j = k
    · subst e
      simp only [upd_same, Option.some.injEq] at hc ⊢
      subst hc
      refine ⟨P2, fun g hg => ⟨?_, (hB2 g hg).2⟩⟩
      rcases hB' g (hB2 g hg).1 with h | h
      · exact (hB g h).1
      · have := E.le; omega
    · simp only [upd_ne e] at hc ⊢
      obtain ⟨Q, hQ⟩ := h2 j hj c hc
      refine ⟨Q.ext he (fun g hg hm => ?_), fun g hg => ⟨(hQ g hg).1, Nat.lt_of_lt_of_le (hQ g hg).2 he.size⟩⟩
      simp only [List.mem_cons] at hm
      have := (hQ g hg).1
      have s1 := E.s1
      have s2 := E.s2
      rcases hm with h | h | h
      · omega
      · omega
      · exact h3 j k hj hk e (by rw [hc]; simp) (by rw [ha]; simp) g hg h
  · simp only at ni nj hg ⊢
    by_cases e : i = k
    · subst e
      have e' : j ≠ i := Ne.symm hij
      simp only [upd_same, upd_ne e'] at hg nj ⊢
      intro hm
      cases hc : S.w j with
      | none => exact nj hc
      | some c =>
        obtain ⟨Q, hQ⟩ := h2 j hj c hc
        rcases hB' g (hB2 g hg).1 with h | h
        · exact h3 i j hi hj hij (by rw [ha]; simp) (by rw [hc]; simp) g h hm
        · have := (hQ g hm).2; omega
    · by_cases e2' : j = k
      · subst e2'
        simp only [upd_same, upd_ne e] at hg ni ⊢
        intro hm
        cases hc : S.w i with
        | none => exact ni hc
        | some c =>
          obtain ⟨Q, hQ⟩ := h2 i hi c hc
          rcases hB' g (hB2 g hm).1 with h | h
          · exact h3 i j hi hj hij (by rw [hc]; simp) (by rw [ha]; simp) g hg h
          · have := (hQ g hg).2; omega
      · simp only [upd_ne e, upd_ne e2'] at hg ni nj ⊢
        exact h3 i j hi hj hij ni nj g hg
  · by_cases e : j = k
    · subst e
      simp only [upd_same, Option.some.injEq] at hc
      subst hc
      exact h5 j hj a ha
    · simp only [upd_ne e] at hc
      exact h5 j hj c hc
  · simp only [List.mem_cons] at hg
    obtain ⟨m1, m2, m3, _⟩ := h10
    rcases hg with rfl | rfl | hg
    · exact .inr (by omega)
    · exact .inr (by omega)
    · exact .inr (by have := (hB g hg).1; omega)
  · rw [hwB.cells, l3_get _ hk]
    simp only [upd_same, ptrOf, Option.map_some]
/-- Actor k's machine tells its packet. -/
theorem OW.packet (H : OW w μ b S K W) {k : Nat} (hk : k < 3) {a : OA} (ha : S.w k = some a) {x : Nat} (hx : W.cell? ⟨b.bw, k, none⟩ = some (.pointer (some ⟨x, 0, none⟩))) :
    Calls Try.prog 30 #[.pointer (some ⟨x, 0, none⟩)] W fun e w' => e = .returned (.int .i64 (if a.m.pc = 0 then a.m.p else 0)) ∧ W = w' := by
  obtain ⟨X, h1, h2, h3⟩ := H.work
  have hc : W.cell? ⟨b.bw, k, none⟩ = some (.pointer (some ⟨(X k).1, 0, none⟩)) := by
    rw [h1.cells, l3_get _ hk]; simp only [ptrOf, ha, Option.map_some]
  rw [hc] at hx
  simp only [Option.some.injEq, Value.pointer.injEq, Addr.mk.injEq, and_true] at hx
  rw [← hx]
  exact PPacket_c (h2 k hk a ha).1
/-- A cell of the law's own lists is changed. -/
theorem OW.store (H : OW w μ b S K W) {g : Nat} (hg : g = b.bw ∨ g = b.bk ∨ g = b.bh ∨ g = b.bs) (i : Nat) (v : Value) :
    (∃ σ, Env (W.setCell ⟨g, i, none⟩ v) μ σ b.hi ∧ σ.mem = S.mem ∧ σ.s = b.s ∧ σ.sb = b.sb) ∧ Ext [] w (W.setCell ⟨g, i, none⟩ v) ∧ ∀ x B m, IsPM W μ x B m → (∀ g ∈ B, b.hi ≤ g ∧ g < W.heap.size) → IsPM (W.setCell ⟨g, i, none⟩ v) μ x B m ∧ ∀ g' ∈ B, b.hi ≤ g' ∧ g' < (W.setCell ⟨g, i, none⟩ v).heap.size := by
  obtain ⟨⟨σ, E, e1, e2, e3⟩, _, _, _, _, _, h8, h9, h10⟩ := H
  obtain ⟨l1, l2, l3', l4⟩ := h9.lt
  obtain ⟨n1, n2, n3, n4, n5, n6, n7, n8⟩ := h9.ns
  obtain ⟨m1, m2, m3⟩ := h9.nm g hg
  have hlt : g < b.hi := by rcases hg with rfl | rfl | rfl | rfl <;> assumption
  have hn1 : g ≠ b.s := by rcases hg with rfl | rfl | rfl | rfl <;> assumption
  have hn2 : g ≠ b.sb := by rcases hg with rfl | rfl | rfl | rfl <;> assumption
  have hw : w.heap.size ≤ g := by
    obtain ⟨_, _, _, a1, a2, a3, a4⟩ := h10
    rcases hg with rfl | rfl | rfl | rfl <;> assumption
  refine ⟨⟨σ, ⟨⟨E.map.hm.set_ne _ m1, E.map.ha.set_ne _ m2, E.map.hr.set_ne _ m3, E.map.ok⟩, E.st.set _ (by rw [e2]; exact hn1) (by rw [e3]; exact hn2), E.m1, E.m2, E.m3, E.s1, E.s2, E.d, by rw [World.size_setCell]; exact E.le⟩, e1, e2, e3⟩, h8.setCell _ _ (.inr hw), fun x B m P hB => ⟨P.ext ((Ext.refl [g] W).setCell _ _ (.inl (by simp))) (fun g' hg' hm => ?_), fun g' hg' => by rw [World.size_setCell]; exact hB g' hg'⟩⟩
  have := (hB g' hg').1
  simp only [List.mem_cons, List.not_mem_nil, or_false] at hm
  omega
/-- Actor k has no machine any more. -/
theorem OW.drop (H : OW w μ b S K W) {k : Nat} (hk : k < 3) : OW w μ b { S with w := upd S.w k none } K (W.setCell ⟨b.bw, k, none⟩ (.pointer none)) := by
  obtain ⟨he, hx, hP⟩ := H.store (g := b.bw) (.inl rfl) k (.pointer none)
  obtain ⟨_, ⟨X, h1, h2, h3⟩, h4, h5, h6, h7, h8, h9, h10⟩ := H
  obtain ⟨m1, m2, m3, m4, m5, m6⟩ := h9.ne
  refine ⟨he, ⟨X, ((h1.set k _).congr (l3_set _ hk _)).congr (l3_congr fun j => ?_), fun j hj c hc => ?_, fun i j hi hj hij ni nj => ?_⟩, h4.set_ne _ m1, fun j hj c hc => ?_, h6.set_ne _ m2, h7.set_ne _ m3, hx, h9, h10⟩
  · by_cases e : j = k
    · subst e; simp only [upd_same]; rfl
    · simp only [upd_ne e]
  · by_cases e : j = k
    · subst e; simp only [upd_same] at hc; cases hc
    · simp only [upd_ne e] at hc
      obtain ⟨a1, a2⟩ := h2 j hj c hc
      exact hP _ _ _ a1 a2
  · by_cases e : i = k
    · subst e; simp only [upd_same] at ni; exact absurd rfl ni
    · by_cases e2 : j = k
      · subst e2; simp only [upd_same] at nj; exact absurd rfl nj
      · simp only [upd_ne e] at ni
        simp only [upd_ne e2] at nj
        exact h3 i j hi hj hij ni nj
  · by_cases e : j = k
    · subst e; simp only [upd_same] at hc; cases hc
    · simp only [upd_ne e] at hc
      exact h5 j hj c hc
theorem i64s_l3 (f : Nat → Int) {k : Nat} (hk : k < 3) (v : Int) : (i64s (l3 f)).set k (.int .i64 v) = i64s (l3 (upd f k v)) := by
  rw [← l3_set f hk v]; simp [i64s]
theorem i64s_l3_get (f : Nat → Int) {k : Nat} (hk : k < 3) : (i64s (l3 f))[k]? = some (.int .i64 (f k)) := by
  unfold i64s; rw [List.getElem?_map, l3_get f hk]; rfl
theorem OW.setHas (H : OW w μ b S K W) {k : Nat} (hk : k < 3) (v : Int) : OW w μ b { S with has := upd S.has k v } K (W.setCell ⟨b.bh, k, none⟩ (.int .i64 v)) := by
  obtain ⟨he, hx, hP⟩ := H.store (g := b.bh) (.inr (.inr (.inl rfl))) k (.int .i64 v)
  obtain ⟨_, ⟨X, h1, h2, h3⟩, h4, h5, h6, h7, h8, h9, h10⟩ := H
  obtain ⟨m1, m2, m3, m4, m5, m6⟩ := h9.ne
  exact ⟨he, ⟨X, h1.set_ne _ (Ne.symm m2), fun j hj c hc => hP _ _ _ (h2 j hj c hc).1 (h2 j hj c hc).2, h3⟩, h4.set_ne _ (Ne.symm m4), h5, (h6.set k _).congr (i64s_l3 _ hk v), h7.set_ne _ m6, hx, h9, h10⟩
theorem OW.setKind (H : OW w μ b S K W) {k : Nat} (hk : k < 3) (hn : S.w k = none) (v : Int) : OW w μ b S (upd K k v) (W.setCell ⟨b.bk, k, none⟩ (.int .i64 v)) := by
  obtain ⟨he, hx, hP⟩ := H.store (g := b.bk) (.inr (.inl rfl)) k (.int .i64 v)
  obtain ⟨_, ⟨X, h1, h2, h3⟩, h4, h5, h6, h7, h8, h9, h10⟩ := H
  obtain ⟨m1, m2, m3, m4, m5, m6⟩ := h9.ne
  refine ⟨he, ⟨X, h1.set_ne _ (Ne.symm m1), fun j hj c hc => hP _ _ _ (h2 j hj c hc).1 (h2 j hj c hc).2, h3⟩, (h4.set k _).congr (i64s_l3 _ hk v), fun j hj c hc => ?_, h6.set_ne _ m4, h7.set_ne _ m5, hx, h9, h10⟩
  by_cases e : j = k
  · subst e; rw [hn] at hc; cases hc
  · rw [upd_ne e]; exact h5 j hj c hc
theorem OW.setSeen (H : OW w μ b S K W) {t : Nat} (v : Int) : OW w μ b { S with seen := S.seen.set t v } K (W.setCell ⟨b.bs, t, none⟩ (.int .i64 v)) := by
  obtain ⟨he, hx, hP⟩ := H.store (g := b.bs) (.inr (.inr (.inr rfl))) t (.int .i64 v)
  obtain ⟨_, ⟨X, h1, h2, h3⟩, h4, h5, h6, h7, h8, h9, h10⟩ := H
  obtain ⟨m1, m2, m3, m4, m5, m6⟩ := h9.ne
  exact ⟨he, ⟨X, h1.set_ne _ (Ne.symm m3), fun j hj c hc => hP _ _ _ (h2 j hj c hc).1 (h2 j hj c hc).2, h3⟩, h4.set_ne _ (Ne.symm m5), h5, h6.set_ne _ (Ne.symm m6), (h7.set t _).congr (by simp [i64s]), hx, h9, h10⟩
/-- An access of memory that changes no word. -/
theorem OW.tick (H : OW w μ b S K W) {σ : St} {W' : World} (hs : IsSt W' σ) (e1 : σ.mem = S.mem) (e2 : σ.s = b.s) (e3 : σ.sb = b.sb) (he : Ext [b.s, b.sb] W W') : OW w μ b S K W' := by
  obtain ⟨⟨σ0, E, f1, f2, f3⟩, ⟨X, h1, h2, h3⟩, h4, h5, h6, h7, h8, h9, h10⟩ := H
  obtain ⟨n1, n2, n3, n4, n5, n6, n7, n8⟩ := h9.ns
  have hn : ∀ {g}, g ≠ b.s → g ≠ b.sb → g ∉ [b.s, b.sb] := fun a b => by simp [a, b]
  refine ⟨⟨σ, E.ext he (fun g hg => ?_) hs (e2.trans f2.symm) (e3.trans f3.symm), e1, e2, e3⟩, ⟨X, h1.ext he (hn n1 n2), fun k hk a ha => ⟨(h2 k hk a ha).1.ext he (fun g hg => ?_), fun g hg => ⟨((h2 k hk a ha).2 g hg).1, Nat.lt_of_lt_of_le ((h2 k hk a ha).2 g hg).2 he.size⟩⟩, h3⟩, h4.ext he (hn n3 n4), h5, h6.ext he (hn n5 n6), h7.ext he (hn n7 n8), h8.trans he (fun g hg => ?_), h9, h10⟩
  · simp only [List.mem_cons, List.not_mem_nil, or_false] at hg
    rcases hg with h | h
    · exact .inl (h.trans f2.symm)
    · exact .inr (.inl (h.trans f3.symm))
  · have := ((h2 k hk a ha).2 g hg).1
    have s1 := E.s1
    have s2 := E.s2
    exact hn (by omega) (by omega)
  · simp only [List.mem_cons, List.not_mem_nil, or_false] at hg
    rcases hg with h | h
    · exact .inr (by rw [h]; exact h10.1)
    · exact .inr (by rw [h]; exact h10.2.1)
/-- Actor k begins: a machine is made, and then stands in its place. -/
theorem OW.begun (H : OW w μ b S K W) {k : Nat} (hk : k < 3) (hn : S.w k = none) {m : PM} {e : Ending} {W' : World} (h : NewPM W μ m e W') {kind : Nat} (hK : K k = kind) :
    ∃ x, e = .returned (.pointer (some ⟨x, 0, none⟩)) ∧ (∀ i, W'.cell? ⟨b.bw, i, none⟩ = W.cell? ⟨b.bw, i, none⟩) ∧ (∀ i, W'.frozen? ⟨b.bw, i, none⟩ = false) ∧ OW w μ b { S with w := upd S.w k (some ⟨kind, m⟩) } K (W'.setCell ⟨b.bw, k, none⟩ (.pointer (some ⟨x, 0, none⟩))) := by
  obtain ⟨x, B, rfl, P, he, _, hB⟩ := h
  have H' := H.ext0 he
  have hbw := H'.work
  have hbw0 := H.work
  obtain ⟨_, q1, _⟩ := hbw
  obtain ⟨X0, q2, r2, _⟩ := hbw0
  have hle : b.hi ≤ W.heap.size := by obtain ⟨σ, E, _⟩ := H.env; exact E.le
  have hcell : ∀ i, W'.cell? ⟨b.bw, i, none⟩ = W.cell? ⟨b.bw, i, none⟩ := fun i => World.cell?_of_block (w := W) (he.same _ q2.lt (by simp))
  refine ⟨x, rfl, hcell, fun i => q1.free i, ?_⟩
  obtain ⟨he', hx, hP⟩ := H'.store (g := b.bw) (.inl rfl) k (.pointer (some ⟨x, 0, none⟩))
  obtain ⟨_, _, h4, h5, h6, h7, h8, h9, h10⟩ := H'
  obtain ⟨m1, m2, m3, m4, m5, m6⟩ := h9.ne
  obtain ⟨X, h1, h2, h3⟩ : ∃ X : Nat → Nat × List Nat, Blk W b.bw (l3 fun k => ptrOf (S.w k) (X k).1) 37 ∧
    (∀ k, k < 3 → ∀ a, S.w k = some a → IsPM W μ (X k).1 (X k).2 a.m ∧ ∀ g ∈ (X k).2, b.hi ≤ g ∧ g < W.heap.size) ∧
    ∀ j k, j < 3 → k < 3 → j ≠ k → S.w j ≠ none → S.w k ≠ none → ∀ g ∈ (X j).2, g ∉ (X k).2 := H.work
  have hnew : ∀ j, j < 3 → ∀ a, S.w j = some a → ∀ g ∈ (X j).2, g ∉ B := fun j hj a ha g hg hm => by
    have := ((h2 j hj a ha).2 g hg).2
    have := (hB g hm).1
    omega
  refine ⟨he', ⟨upd X k (x, B), (((h1.ext he (by simp)).set k _).congr (l3_set _ hk _)).congr (l3_congr fun j => ?_), fun j hj c hc => ?_, fun i j hi hj hij ni nj g hg => ?_⟩, h4.set_ne _ m1, fun j hj c hc => ?_, h6.set_ne _ m2, h7.set_ne _ m3, hx, h9, h10⟩
  · by_cases e : j = k
    · subst e; simp only [upd_same]; rfl
    · simp only [upd_ne e]
  · by_cases e : j = k
    · subst e
      simp only [upd_same, Option.some.injEq] at hc ⊢
      subst hc
      exact hP _ _ _ P (fun g hg => ⟨by have := (hB g hg).1; omega, (hB g hg).2⟩)
    · simp only [upd_ne e] at hc ⊢
      obtain ⟨a1, a2⟩ := h2 j hj c hc
      exact hP _ _ _ (a1.ext he (by simp)) (fun g hg => ⟨(a2 g hg).1, Nat.lt_of_lt_of_le (a2 g hg).2 he.size⟩)
  · by_cases e : i = k
    · subst e
      have e' : j ≠ i := Ne.symm hij
      simp only [upd_same] at hg
      simp only [upd_ne e'] at nj ⊢
      intro hm
      cases hc : S.w j with
      | none => exact nj hc
      | some c => exact hnew j hj c hc g hm hg
    · simp only [upd_ne e] at hg ni
      by_cases e2 : j = k
      · subst e2
        simp only [upd_same]
        intro hm
        cases hc : S.w i with
        | none => exact ni hc
        | some c => exact hnew i hi c hc g hg hm
      · simp only [upd_ne e2] at nj ⊢
        exact h3 i j hi hj hij ni nj g hg
  · by_cases e : j = k
    · subst e
      simp only [upd_same, Option.some.injEq] at hc
      subst hc
      exact hK
    · simp only [upd_ne e] at hc
      exact h5 j hj c hc
end
end Go.Proofs.Ytcgnficlcgmffaa
