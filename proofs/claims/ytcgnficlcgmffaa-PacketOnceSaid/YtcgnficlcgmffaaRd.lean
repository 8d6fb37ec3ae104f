/-
  Arguments opened: slices of bytes and of words, configurations.
-/
import Derived.Test.YtcgnficlcgmffaaPacketNew
import Derived.Test.YtcgnficlcgmffaaRows
import Derived.ProofKit
import Derived.OpenShut
import Derived.ShutString
import Derived.ChangeOld
import Derived.Below
namespace Go.Proofs.Ytcgnficlcgmffaa
open Go.RowKit Go.ChangeShapes Go.WideShapes Go.ChangeAt
set_option linter.unusedVariables false
set_option maxRecDepth 100000

theorem ownK : ownKnob Try.prog.godebug = none := by kernel_rfl
theorem laidK : laidOutB Try.prog = true := by kernel_rfl

/-- A slice of bytes that reads as ts. -/
def RdB (w : World) (v : Value) (ts : List Int) : Prop :=
  ∃ a cap, v = .slice a ts.length cap ∧ ts.length ≤ cap ∧ ts.length ≤ maxLen ∧ (∀ x ∈ ts, 0 ≤ x ∧ x < 256) ∧ (0 < ts.length → ∃ b off, a = some ⟨b, off, none⟩ ∧ ∀ j, j < ts.length → w.cell? ⟨b, off + j, none⟩ = some (.int .u8 (ts.getD j 0)))
theorem RdB.ext {w w' : World} {v : Value} {ts : List Int} (h : RdB w v ts) (he : Ext [] w w') : RdB w' v ts := by
  obtain ⟨a, cap, e, h1, h2, h4, h3⟩ := h
  refine ⟨a, cap, e, h1, h2, h4, fun hp => ?_⟩
  obtain ⟨b, off, e2, hc⟩ := h3 hp
  refine ⟨b, off, e2, fun j hj => ?_⟩
  have hlt := World.block_lt_of_cell? w _ (hc j hj)
  rw [← hc j hj]
  exact World.cell?_of_block (w := w) (he.same b hlt (by simp))
section
variable {H : Type} {enc : TypeId × Value → H} {w : World} {base : Nat} {r : Reach} {b0 : Nat} {v : Value} {d : DataW H} {p : List MemPlace}
/-- A row of cells, as a slice. -/
theorem open_row {t e : TypeId} {k : IntKind} (ht : Try.prog.underlying t = some (.slice e)) (he : Try.prog.underlying e = some (.int k)) (hc : Try.prog.cellsOf e = 1)
    (hv : Value.okWide Try.prog w r b0 t v) (h : DataW.Trod enc Try.prog w base (fun _ => true) true t v d p) :
    ∃ ts a cap, v = .slice a (ts : List Int).length cap ∧ ts.length ≤ cap ∧ ts.length ≤ maxLen ∧ (∀ n ∈ ts, (Lit.int k n).wf = true) ∧ (0 < ts.length → ∃ b off, a = some ⟨b, off, none⟩ ∧ ∀ j, j < ts.length → w.cell? ⟨b, off + j, none⟩ = some (.int k (ts.getD j 0))) := by
  obtain ⟨a, len, cap, rfl⟩ := okWide_slice ht hv
  obtain ⟨fuel, hf⟩ := h
  rcases open_ints ht he hc hf with ⟨hcs, _⟩ | ⟨x, l, c, zs, hcs, _, hl, hm, hz, _, hcell, hwz⟩
  · simp [Value.cells] at hcs
    obtain ⟨rfl, rfl, rfl⟩ := hcs
    exact ⟨[], none, 0, rfl, by simp, by simp, by simp, fun h => by simp at h⟩
  · simp [Value.cells] at hcs
    obtain ⟨rfl, rfl, rfl⟩ := hcs
    have hz' : zs.length = cap := by simpa using hz
    have hlen : (zs.take len).length = len := by rw [List.length_take]; omega
    refine ⟨zs.take len, some x, cap, by rw [hlen], by omega, by omega, fun n hn => hwz n (List.mem_of_mem_take hn), fun hp => ?_⟩
    rw [hlen] at hp ⊢
    obtain ⟨b, off, spot⟩ := x
    have hc0 := hcell 0 (by omega)
    have hspot : spot = none := by simpa [Addr.add] using World.cell?_spot hc0
    subst hspot
    refine ⟨b, off, rfl, fun j hj => ?_⟩
    have h1 := hcell j (by omega)
    rw [add_off] at h1
    rw [h1]
    congr 2
    simp [List.getD_eq_getElem?_getD, List.getElem?_take, hj]
theorem open_bytes (hv : Value.okWide Try.prog w r b0 53 v) (h : DataW.Trod enc Try.prog w base (fun _ => true) true 53 v d p) : ∃ ts, RdB w v ts := by
  obtain ⟨ts, a, cap, e, h1, h2, h3, h4⟩ := open_row (k := .u8) Try.underlying53 Try.underlying5 (by kernel_rfl) hv h
  refine ⟨ts, a, cap, e, h1, h2, fun x hx => ?_, h4⟩
  have := h3 x hx
  simp [Lit.wf, IntKind.min, IntKind.max, IntKind.signed, IntKind.bits] at this
  omega
theorem open_words (hv : Value.okWide Try.prog w r b0 25 v) (h : DataW.Trod enc Try.prog w base (fun _ => true) true 25 v d p) : ∃ ts, RdU w v ts ∧ ∀ x ∈ ts, U64 x := by
  obtain ⟨ts, a, cap, e, h1, h2, h3, h4⟩ := open_row (k := .u64) Try.underlying25 Try.underlying39 (by kernel_rfl) hv h
  refine ⟨ts, ⟨a, cap, e, h1, h2, h4⟩, fun x hx => ?_⟩
  have := h3 x hx
  simp [Lit.wf, IntKind.min, IntKind.max, IntKind.signed, IntKind.bits] at this
  exact ⟨by omega, by omega⟩
theorem cells_i64 : Try.prog.cellsOf 3 = 1 := by kernel_rfl
theorem cells_cfg : Try.prog.cellsOf 24 = 12 := by kernel_rfl
theorem cells_a5 : Try.prog.cellsOf 22 = 5 := by kernel_rfl
/-- A configuration: twelve integers. -/
theorem open_cfg (hv : Value.okWide Try.prog w r b0 24 v) (h : DataW.Trod enc Try.prog w base (fun _ => true) true 24 v d p) : ∃ c : Cfg, v = .agg c.vals.toArray := by
  obtain ⟨cs, rfl, hsz⟩ := okWide_struct Try.underlying24 hv
  rw [cells_cfg] at hsz
  obtain ⟨l⟩ := cs
  obtain ⟨fuel, hf⟩ := h
  obtain ⟨xs, n, _, _, _, hxl, hg⟩ := DataW.trod_struct Try.underlying24 hf
  have hint : ∀ (i : Nat) (f : Field) , i < xs.length → DataW.trod enc Try.prog w base (fun _ => true) true n 3 ((l.drop f.offset).take 1) = xs[i]? → ∃ m, (l.drop f.offset).take 1 = [Value.int .i64 m] := fun i f hi e => by
    rw [List.getElem?_eq_getElem hi] at e
    obtain ⟨m, h1, _⟩ := DataW.trod_int Try.underlying3 e
    exact ⟨m, h1⟩
  have h0 := hg 0 _ rfl
  have h1 := hg 1 _ rfl
  have h2 := hg 2 _ rfl
  have h3 := hg 3 _ rfl
  have h4 := hg 4 _ rfl
  have h5 := hg 5 _ rfl
  have h6 := hg 6 _ rfl
  have h7 := hg 7 _ rfl
  simp only [cells_i64, cells_a5, Value.cells] at h0 h1 h2 h3 h4 h5 h6 h7
  have hx8 : xs.length = 8 := hxl
  have q1 := hint 1 _ (by omega) h1
  have q2 := hint 2 _ (by omega) h2
  have q3 := hint 3 _ (by omega) h3
  have q4 := hint 4 _ (by omega) h4
  have q5 := hint 5 _ (by omega) h5
  have q6 := hint 6 _ (by omega) h6
  have q7 := hint 7 _ (by omega) h7
  rw [List.getElem?_eq_getElem (show 0 < xs.length by omega)] at h0
  obtain ⟨ys, m, _, _, _, hyl, ha⟩ := DataW.trod_array Try.underlying22 h0
  match l, hsz with
  | [a0, a1, a2, a3, a4, a5, a6, a7, a8, a9, b0, b1], _ =>
    have hel : ∀ i, i < 5 → ∃ z, ((([a0, a1, a2, a3, a4, a5, a6, a7, a8, a9, b0, b1] : List Value).drop 0).take 5 |>.drop i).take 1 = [Value.int .i64 z] := fun i hi => by
      have e := ha i hi
      rw [cells_i64, Nat.mul_one, List.getElem?_eq_getElem (show i < ys.length by omega)] at e
      obtain ⟨z, h1, _⟩ := DataW.trod_int Try.underlying3 e
      exact ⟨z, h1⟩
    obtain ⟨z0, e0⟩ := hel 0 (by omega)
    obtain ⟨z1, e1⟩ := hel 1 (by omega)
    obtain ⟨z2, e2⟩ := hel 2 (by omega)
    obtain ⟨z3, e3⟩ := hel 3 (by omega)
    obtain ⟨z4, e4⟩ := hel 4 (by omega)
    obtain ⟨m1, q1⟩ := q1
    obtain ⟨m2, q2⟩ := q2
    obtain ⟨m3, q3⟩ := q3
    obtain ⟨m4, q4⟩ := q4
    obtain ⟨m5, q5⟩ := q5
    obtain ⟨m6, q6⟩ := q6
    obtain ⟨m7, q7⟩ := q7
    simp at e0 e1 e2 e3 e4 q1 q2 q3 q4 q5 q6 q7
    exact ⟨⟨z0, z1, z2, z3, z4, m1, m2, m3, m4, m5, m6, m7⟩, by simp [Cfg.vals, e0, e1, e2, e3, e4, q1, q2, q3, q4, q5, q6, q7]⟩
end
end Go.Proofs.Ytcgnficlcgmffaa
