/-
  Law PacketOnce: what the round needs.
-/
import Derived.Test.YtcgnficlcgmffaaOnceW
import Derived.Test.YtcgnficlcgmffaaOnceE
namespace Go.Proofs.Ytcgnficlcgmffaa
open Go.RowKit

namespace OS
variable {L : Lay} {S : OS} {k : Nat} {a : OA}
theorem act_go (h : (PM.on L (S.mem, a.m)).2.pc ≠ 0) : act L k S a = { S with mem := (PM.on L (S.mem, a.m)).1, w := upd S.w k (some ⟨a.kind, (PM.on L (S.mem, a.m)).2⟩) } := by
  unfold act; exact if_pos h
theorem act_back (h : (PM.on L (S.mem, a.m)).2.pc = 0) (hk : a.kind = 2) : act L k S a = { S with mem := (PM.on L (S.mem, a.m)).1, w := upd S.w k none, has := upd S.has k 0 } := by
  unfold act
  simp only
  rw [if_neg (fun h' => h' h), if_pos hk]
theorem act_take (h : (PM.on L (S.mem, a.m)).2.pc = 0) (hk : a.kind = 1) (hp : 0 < (PM.on L (S.mem, a.m)).2.p) : act L k S a = { S with mem := (PM.on L (S.mem, a.m)).1, w := upd S.w k none, has := upd S.has k (PM.on L (S.mem, a.m)).2.p, seen := S.seen.set (ld (PM.on L (S.mem, a.m)).1 (L.task (PM.on L (S.mem, a.m)).2.p 0)).toNat (S.seen.getD (ld (PM.on L (S.mem, a.m)).1 (L.task (PM.on L (S.mem, a.m)).2.p 0)).toNat 0 + 1) } := by
  unfold act
  simp only
  rw [if_neg (fun h' => h' h), if_neg (by omega), if_pos ⟨hk, hp⟩]
theorem act_else (h : (PM.on L (S.mem, a.m)).2.pc = 0) (hk : a.kind ≠ 2) (hp : ¬ (a.kind = 1 ∧ 0 < (PM.on L (S.mem, a.m)).2.p)) : act L k S a = { S with mem := (PM.on L (S.mem, a.m)).1, w := upd S.w k none } := by
  unfold act
  simp only
  rw [if_neg (fun h' => h' h), if_neg hk, if_neg hp]
theorem Inv.kinds {v : Int} (I : Inv L S v) (hk : k < 3) (h : S.w k = some a) : a.kind = 0 ∨ a.kind = 1 ∨ a.kind = 2 := by
  obtain ⟨⟨loc, sp, pl, P, hA, _⟩, _⟩ := I
  rcases (hA k hk a h).kind with h | h | h
  · exact .inl h.1
  · exact .inr (.inl h.1)
  · exact .inr (.inr h.1)
end OS
section
variable {w : World} {μ : Mp} {b : OB} {S : OS} {K : Nat → Int} {W : World}
theorem OW.begun' (H : OW w μ b S K W) {k : Nat} (hk : k < 3) (hn : S.w k = none) {m : PM} {e : Ending} {W' : World} (h : NewPM W μ m e W') {kind : Nat} (hK : K k = kind) :
    ∃ x, e = .returned (.pointer (some ⟨x, 0, none⟩)) ∧ W'.cell? ⟨b.bw, k, none⟩ = some (.pointer none) ∧ W'.frozen? ⟨b.bw, k, none⟩ = false ∧ OW w μ b { S with w := upd S.w k (some ⟨kind, m⟩) } K (W'.setCell ⟨b.bw, k, none⟩ (.pointer (some ⟨x, 0, none⟩))) := by
  obtain ⟨X, q, _⟩ := H.work
  obtain ⟨x, a, b, c, d⟩ := H.begun hk hn h hK
  refine ⟨x, a, ?_, c k, d⟩
  rw [b, q.cells, l3_get _ hk]
  simp only [ptrOf, hn, Option.map_none]
theorem put1_c {μ : Mp} (p : Int) (hp : U64 p) (W : World) (g : Nat) (hg : g = W.heap.size) (hW : IsMap (W.alloc (.cells #[.int .u64 p] 39)) μ) : Calls Try.prog 18 #[μ.ptr, .slice (some ⟨g, 0, none⟩) 1 1] (W.alloc (.cells #[.int .u64 p] 39)) (NewPM (W.alloc (.cells #[.int .u64 p] 39)) μ (PM.put [p])) :=
  hg ▸ NewPut_c [p] _ (RdU.two _ W.heap.size [p] 39 (Blk.new _ _ _) (by simp [maxLen])) (by simpa using hp) hW
theorem OW.ck (H : OW w μ b S K W) {k : Nat} (hk : k < 3) : W.cell? ⟨b.bk, k, none⟩ = some (.int .i64 (K k)) ∧ W.frozen? ⟨b.bk, k, none⟩ = false := by
  refine ⟨?_, H.kind.free k⟩
  rw [H.kind.cells, i64s_l3_get _ hk]
theorem OW.ch (H : OW w μ b S K W) {k : Nat} (hk : k < 3) : W.cell? ⟨b.bh, k, none⟩ = some (.int .i64 (S.has k)) ∧ W.frozen? ⟨b.bh, k, none⟩ = false := by
  refine ⟨?_, H.has.free k⟩
  rw [H.has.cells, i64s_l3_get _ hk]
theorem OW.cs (H : OW w μ b S K W) {t : Nat} (ht : t < S.seen.length) : W.cell? ⟨b.bs, t, none⟩ = some (.int .i64 (S.seen.getD t 0)) ∧ W.frozen? ⟨b.bs, t, none⟩ = false := by
  refine ⟨?_, H.seen.free t⟩
  rw [H.seen.cells]
  simp only [i64s, List.getElem?_map, List.getD_eq_getElem?_getD, List.getElem?_eq_getElem ht, Option.map_some, Option.getD_some]
theorem OW.cw (H : OW w μ b S K W) {k : Nat} (hk : k < 3) : (∃ x, W.cell? ⟨b.bw, k, none⟩ = some (.pointer x)) ∧ W.frozen? ⟨b.bw, k, none⟩ = false := by
  obtain ⟨X, q, _⟩ := H.work
  refine ⟨?_, q.free k⟩
  rw [q.cells, l3_get _ hk]
  exact ⟨_, rfl⟩
theorem OW.load (H : OW w μ b S K W) (at_ : Int) : Calls Try.prog 31 #[.pointer (some ⟨b.s, 0, none⟩), .int .i64 at_] W fun e w' => e = .returned (.int .u64 (ld S.mem at_)) ∧ OW w μ b S K w' := by
  obtain ⟨σ, E, e1, e2, e3⟩ := H.env
  have h := Load_c σ at_ W E.st
  rw [e2] at h
  refine h.mono ?_
  rintro e w' ⟨rfl, hs, he⟩
  rw [e3] at he
  refine ⟨?_, H.tick hs e1 e2 e3 he⟩
  unfold St.load
  rw [e1]
theorem OW.load' (H : OW w μ b S K W) (at_ v : Int) (hv : ld S.mem at_ = v) : Calls Try.prog 31 #[.pointer (some ⟨b.s, 0, none⟩), .int .i64 at_] W fun e w' => e = .returned (.int .u64 v) ∧ OW w μ b S K w' := hv ▸ H.load at_
theorem OW.held (H : OW w μ b S K W) (hwd : Wds S.mem) (hne : S.mem ≠ []) : Calls Try.prog 22 #[.pointer (some ⟨b.s, 0, none⟩)] W fun e w1 => ∃ v, e = .returned v ∧
    Calls Try.prog 21 #[μ.ptr, v] w1 fun e w2 => ∃ v bo, e = .returned v ∧ Sl w2 39 1 bo v (heldM μ.L S.mem).length (u64s (heldM μ.L S.mem)) ∧ OW w μ b S K w2 ∧ ∀ g, bo = some g → w.heap.size ≤ g ∧ g ≠ b.bs := by
  obtain ⟨σ, E, e1, e2, e3⟩ := H.env
  have h := SAll_c σ E.st
  rw [e2] at h
  refine h.mono ?_
  rintro e w1 ⟨g, rfl, hB, he, hg⟩
  refine ⟨_, rfl, ?_⟩
  have hlen := E.st.len
  rw [e1] at hB hlen ⊢
  have H1 := H.ext0 he
  have hsz := he.size
  refine (Held_c H1.map S.mem _ (RdU.two _ g S.mem 39 hB (by unfold maxLen; omega)) hwd hne hlen).mono ?_
  rintro e w2 ⟨v, bo, n, rfl, hS, he2, hbo⟩
  have hn := hS.u64
  subst hn
  refine ⟨v, bo, rfl, hS, H1.ext0 he2, fun g' hg' => ?_⟩
  have h1 := hbo g' hg'
  have h2 := H.seen.lt
  have h3 := H.new.2.2.2.2.2.2
  have h4 := H.ext.size
  omega
end
/-- The end's world. -/
def EndW (w : World) (bs : Nat) (seen H : List Int) (v : Value) (bo : Option Nat) (W : World) : Prop :=
  Blk W bs (i64s seen) 3 ∧ Sl W 39 1 bo v H.length (u64s H) ∧ Ext [] w W ∧ w.heap.size ≤ bs ∧ ∀ g, bo = some g → w.heap.size ≤ g ∧ g ≠ bs
section
variable {w : World} {bs : Nat} {seen H : List Int} {v : Value} {bo : Option Nat} {W : World}
theorem EndW.cell (h : EndW w bs seen H v bo W) {j : Nat} (hj : j < H.length) : ∃ g cap, v = .slice (some ⟨g, 0, none⟩) H.length cap ∧ W.cell? ⟨g, j, none⟩ = some (.int .u64 (H.getD j 0)) ∧ g ≠ bs := by
  obtain ⟨h1, h2, h3, h4, h5⟩ := h
  obtain ⟨a, b⟩ := h2
  cases bo with
  | none => simp only [u64s_length] at a b; obtain ⟨_, hb⟩ := b; omega
  | some g =>
    obtain ⟨cap, spare, rfl, hB, _, hc, _⟩ := b
    refine ⟨g, cap, rfl, ?_, (h5 g rfl).2⟩
    rw [hB.cells, List.getElem?_append_left (by simpa using hj), u64s_get _ _ hj]
theorem EndW.get (h : EndW w bs seen H v bo W) {t : Nat} (ht : t < seen.length) : W.cell? ⟨bs, t, none⟩ = some (.int .i64 (seen.getD t 0)) ∧ W.frozen? ⟨bs, t, none⟩ = false := by
  refine ⟨?_, h.1.free t⟩
  rw [h.1.cells]
  simp only [i64s, List.getElem?_map, List.getD_eq_getElem?_getD, List.getElem?_eq_getElem ht, Option.map_some, Option.getD_some]
theorem EndW.set (h : EndW w bs seen H v bo W) (t : Nat) (x : Int) : EndW w bs (seen.set t x) H v bo (W.setCell ⟨bs, t, none⟩ (.int .i64 x)) := by
  obtain ⟨h1, h2, h3, h4, h5⟩ := h
  exact ⟨(h1.set t _).congr (by simp [i64s]), h2.ext ((Ext.refl [bs] W).setCell _ _ (.inl (by simp))) (fun g hg hm => (h5 g hg).2 (by simpa using hm)), h3.setCell _ _ (.inr h4), h4, h5⟩
end
end Go.Proofs.Ytcgnficlcgmffaa
