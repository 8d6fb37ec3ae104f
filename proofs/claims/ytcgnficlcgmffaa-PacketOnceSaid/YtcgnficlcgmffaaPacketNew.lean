/-
  Package packet: how its machines begin, and what they tell.
-/
import Derived.Test.YtcgnficlcgmffaaPacket
namespace Go.Proofs.Ytcgnficlcgmffaa
open Go.RowKit

/-- A slice of words that reads as ts. -/
def RdU (w : World) (v : Value) (ts : List Int) : Prop :=
  ∃ a cap, v = .slice a ts.length cap ∧ ts.length ≤ cap ∧ ts.length ≤ maxLen ∧ (0 < ts.length → ∃ b off, a = some ⟨b, off, none⟩ ∧ ∀ j, j < ts.length → w.cell? ⟨b, off + j, none⟩ = some (.int .u64 (ts.getD j 0)))
theorem RdU.ext {w w' : World} {v : Value} {ts : List Int} (h : RdU w v ts) (he : Ext [] w w') : RdU w' v ts := by
  obtain ⟨a, cap, e, h1, h2, h3⟩ := h
  refine ⟨a, cap, e, h1, h2, fun hp => ?_⟩
  obtain ⟨b, off, e2, hc⟩ := h3 hp
  refine ⟨b, off, e2, fun j hj => ?_⟩
  have hlt := World.block_lt_of_cell? w _ (hc j hj)
  rw [← hc j hj]
  exact World.cell?_of_block (w := w) (he.same b hlt (by simp))
theorem Sl.rd {w : World} {E : TypeId} {b : Option Nat} {v : Value} {n : Nat} {ts : List Int} (h : Sl w E 1 b v n (u64s ts)) : RdU w v ts := by
  obtain ⟨hl, k⟩ := h
  simp only [u64s_length, Nat.mul_one] at hl
  subst hl
  cases b with
  | none =>
    obtain ⟨rfl, h0⟩ := k
    exact ⟨none, 0, by rw [h0], by omega, by omega, fun hp => by omega⟩
  | some g =>
    obtain ⟨cap, spare, rfl, hB, _, h1, h2⟩ := k
    refine ⟨_, cap, rfl, h1, by omega, fun _ => ⟨g, 0, rfl, fun j hj => ?_⟩⟩
    rw [Nat.zero_add, hB.cells, List.getElem?_append_left (by simpa using hj), u64s_get _ _ hj]

/-- A new machine, in new blocks. -/
def NewPM (w : World) (μ : Mp) (m : PM) (e : Ending) (w' : World) : Prop :=
  ∃ x B, e = .returned (.pointer (some ⟨x, 0, none⟩)) ∧ IsPM w' μ x B m ∧ Ext [] w w' ∧ w'.heap.size > w.heap.size ∧ ∀ g ∈ B, w.heap.size ≤ g ∧ g < w'.heap.size

theorem u64_info : (Try.prog.info? 39).map (fun i => (i.zero, i.size, i.bytes)) = some (some (.int .u64 0), 1, 8) := by kernel_rfl
theorem u64_slice : Try.prog.underlying 25 = some (.slice 39) := by kernel_rfl
theorem u64s_one (l : List Int) : ∀ u ∈ u64s l, u.oneCell' = true := by
  intro u hu
  obtain ⟨_, _, rfl⟩ := List.mem_map.1 hu
  rfl
theorem add_off (b off j : Nat) : (⟨b, off, none⟩ : Addr).add j = ⟨b, off + j, none⟩ := by
  rcases Nat.eq_zero_or_pos j with rfl | hp
  · rfl
  · rw [Addr.add, if_neg (by omega)]
theorem RdU.src {w : World} {ts : List Int} {a : Option Addr} {n cap : Nat} (h : RdU w (.slice a n cap) ts) (k : Nat) (hk : k ≤ ts.length) (c : Nat) :
    Src Try.prog 1 25 (.slice a k c) k (u64s (ts.take k)) w := by
  obtain ⟨a', cap', e, c1, c2, c3⟩ := h
  simp only [Value.slice.injEq] at e
  obtain ⟨rfl, rfl, rfl⟩ := e
  rcases Nat.eq_zero_or_pos k with rfl | hp
  · cases a with
    | none => exact Src.ofNil w u64_slice c
    | some ad => exact Src.ofSlice w u64_slice ad 0 c _ (by simp) (fun j u hj => by simp [u64s] at hj) (u64s_one _)
  · obtain ⟨b, off, rfl, hc⟩ := c3 (by omega)
    refine Src.ofSlice w u64_slice ⟨b, off, none⟩ k c _ (by simp; omega) (fun j u hj => ?_) (u64s_one _)
    have hlt : j < k := by
      have := (List.getElem?_eq_some_iff.1 hj).1
      simp at this; omega
    rw [add_off, hc j (by omega)]
    rw [u64s_get _ _ (by simp; omega)] at hj
    rw [← hj]
    simp [List.getElem?_take, hlt]

theorem NewPut_aux {w : World} {μ : Mp} (ts : List Int) (k : Nat) (hk : k ≤ ts.length) (hk4 : (4 ≤ ts.length ∧ k = 4) ∨ (ts.length ≤ 4 ∧ k = ts.length)) (hne : ts ≠ []) (v : Value) (hv : RdU w v ts) (hu : ∀ x ∈ ts, U64 x) (hμ : IsMap w μ) :
    Calls Try.prog 18 #[μ.ptr, v] w (NewPM w μ (PM.put ts)) := by
  obtain ⟨i0, hi, hz, hz1, hz2⟩ := info_parts u64_info
  obtain ⟨a, cap, rfl, c1, c2, c3⟩ := id hv
  have hsrc := Lib.hid (fun W (hW : RdU W (.slice a ts.length cap) ts) c => hW.src k hk c)
  unfold maxLen at c2
  have hb1 : (ts.length : Int) ≤ 9223372036854775807 := by omega
  have hb2 : (ts.length : Int) ≤ (cap : Int) := by omega
  have hb3 : 0 < (ts.length : Int) := by
    have := List.length_pos_iff.2 hne; omega
  have hk0 : 0 < k := by have := List.length_pos_iff.2 hne; omega
  have hmin : (if (4 : Int) < (ts.length : Int) then (4 : Int) else (ts.length : Int)) = (k : Int) := by split <;> omega
  have HK := Lib.hid hk4
  clear hk4
  have hkc : (k : Int) ≤ (cap : Int) := by omega
  have hkl : (k : Int) ≤ (ts.length : Int) := by omega
  have hW : Blk (w.alloc (.cells (PM.cells ⟨[], 0, 0, popSM 5, 0⟩ μ w.heap.size (.slice none 0 0) (.pointer none)).toArray 121)) w.heap.size (PM.cells ⟨[], 0, 0, popSM 5, 0⟩ μ w.heap.size (.slice none 0 0) (.pointer none)) 121 := Blk.new _ _ _
  clear c3
  unfold Mp.ptr at hW ⊢
  go_enter Try.func18, Try.ntmps18
  go_wp2_with fail
  refine wp_region_rg [1, 0, 0, 0, 0, 0, 0, 0, 0, 0, 2, 2, 2, 2] (by kernel_rfl) (by kernel_rfl) ?_
  repeat (first | (with_reducible refine wpH_tail ?_) | ((with_reducible refine wpH_float (fun K hK => ?_)); go_simp; refine hK _ ?_; clear hK K) | ((with_reducible refine wpH_near (fun K hK => ?_)); go_simp; first | (refine hK _ ?_; clear hK K) | (apply Exists.intro; refine ⟨fun _ => ?_, hK _ ?_⟩; (fail); clear hK K)))
  refine wpH_nil ?_
  rintro _ ⟨nq, rfl⟩
  simp only [rgTailOps, Nat.reduceEqDiff, if_true, if_false]
  refine wpList_append_sl _ rfl (.tmp 13) (.tmp 18) 25 25 rfl 39 i0 (.int .u64 0) 1 8 u64_slice hi hz hz1 hz2 rfl (by decide) (b := none) (n := 0) (xs := []) (Sl.nil _ _ _) k (u64s (ts.take k)) (hsrc.out _ (hv.ext (((Ext.refl [] w).alloc _).drewN nq)) _) (by unfold maxLen; omega) (by omega) ?_
  intro v' b' w1 hsl he1 hb'
  obtain ⟨sa, cap', rfl⟩ := hsl.form
  have hx1 := (hW.drewN nq).ext he1 (by simp)
  have hc1 := hx1.cells
  have hf1 := hx1.free
  simp only [PM.cells, PM.nx] at hc1
  clear hW hmin hi hz hz1 hz2
  have HB := Lib.hid hb'
  clear hb'
  have hE : Ext [] w w1 := (((Ext.refl [] w).alloc _).drewN nq).trans he1 (by simp)
  have hxl := hx1.lt
  go_wp2_with (first | (with_reducible refine NoPanic.normal ?_) | (go_at_call 88; refine (Spare_c (hμ.ext0 (hE.setCell _ _ (.inr (Nat.le_refl _))))).mono ?_; rintro e w2 ⟨rfl, rfl⟩) | (go_at_call 87; refine (Pop_c' _ _ _ _ _).mono ?_; rintro e w2 ⟨rfl, hq, hz2, he2⟩; have hx3 := (hx1.set 1 (.slice sa k cap')).ext he2 (by simp); have hc3 := hx3.cells; have hf3 := hx3.free; simp only [PM.cells, PM.nx, List.set] at hc3))
  go_ret
  rw [World.size_setCell] at hq hz2
  have hni : w.heap.size ≠ w1.heap.size := by omega
  have hsz1 := hE.size
  have hb2' : ∀ g, b' = some g → g ≠ w.heap.size ∧ w.heap.size ≤ g ∧ g < w1.heap.size := by
    intro g hg
    have hl := hsl.lt hg
    rcases HB.out with h | h
    · rw [h] at hg; cases hg
    · rw [h] at hg
      simp only [Option.some.injEq, drewN_size, World.size_alloc] at hg
      omega
  have hsl2 : Sl ((w2.setCell ⟨w.heap.size, 4, none⟩ (.pointer (some ⟨w1.heap.size, 0, none⟩))).setCell ⟨w.heap.size, 5, none⟩ (PM.nx w.heap.size 1)) 39 1 b' (.slice sa k cap') k (u64s (ts.take k)) := by
    have h1 := hsl.ext (S := [w.heap.size]) (((((Ext.refl [w.heap.size] w1).setCell ⟨w.heap.size, 1, none⟩ (.slice sa k cap') (.inl (by simp))).trans he2 (by simp)).setCell ⟨w.heap.size, 4, none⟩ (.pointer (some ⟨w1.heap.size, 0, none⟩)) (.inl (by simp))).setCell ⟨w.heap.size, 5, none⟩ (PM.nx w.heap.size 1) (.inl (by simp))) (fun g hg hm => (hb2' g hg).1 (by simpa using hm))
    simpa using h1
  have htk : ts.take 4 = ts.take k := by
    rcases HK.out with ⟨_, rfl⟩ | ⟨h, rfl⟩
    · rfl
    · rw [List.take_of_length_le h, List.take_of_length_le (Nat.le_refl _)]
  have hk4 : k ≤ 4 := by rcases HK.out with ⟨_, rfl⟩ | ⟨h, rfl⟩ <;> omega
  have htl : (ts.take k).length = k := by simp; omega
  refine ⟨w.heap.size, w.heap.size :: w1.heap.size :: b'.toList, rfl, ⟨⟨.slice sa k cap', .pointer (some ⟨w1.heap.size, 0, none⟩), b', ?_, ?_, fun g hg => ⟨by simp [hg], (hb2' g hg).1⟩, fun _ => ⟨w1.heap.size, rfl, by simp, hni.symm, fun h => by have := (hb2' _ h).2.2; omega, ?_⟩⟩, by simp, ?_⟩, ?_, ?_, ?_⟩
  · have e1 : (PM.put ts).pc = 1 := by simp [PM.put, hne]
    refine ((hx3.set 4 (.pointer (some ⟨w1.heap.size, 0, none⟩))).set 5 (PM.nx w.heap.size 1)).congr ?_
    simp [PM.cells, PM.put, hne, List.set, PM.nx]
  · simpa [PM.put, htk, htl, PM.nx] using hsl2
  · exact ⟨(hq.set_ne _ hni).set_ne _ hni, ⟨⟨Int.le_refl 0, by simp [PM.put, popSM]⟩, ⟨Int.le_refl 0, by simp [PM.put, popSM]⟩, ⟨Int.le_refl 0, by simp [PM.put, popSM]⟩⟩⟩
  · exact ⟨fun x hx => hu x (List.mem_of_mem_take hx), by simp [PM.put]; omega, ⟨Int.le_refl 0, by simp [PM.put]⟩, by simp [PM.put, popSM], by simp [PM.put, hne], by simp [PM.put], fun _ => by simp only [PM.put, htk, htl]; omega⟩
  · exact (((hE.setCell _ _ (.inr (Nat.le_refl _))).trans he2 (by simp)).setCell _ _ (.inr (Nat.le_refl _))).setCell _ _ (.inr (Nat.le_refl _))
  · simp only [World.size_setCell]; omega
  · intro g hg
    simp only [List.mem_cons, Option.mem_toList] at hg
    simp only [World.size_setCell]
    rcases hg with rfl | rfl | hg
    · omega
    · omega
    · have := hb2' g hg; omega

theorem NewPut_nil {w : World} {μ : Mp} (v : Value) (hv : RdU w v []) : Calls Try.prog 18 #[μ.ptr, v] w (NewPM w μ (PM.put [])) := by
  obtain ⟨i0, hi, hz, hz1, hz2⟩ := info_parts u64_info
  obtain ⟨a, cap, rfl, c1, c2, c3⟩ := id hv
  have hsrc := Lib.hid (fun W (hW : RdU W (.slice a ([] : List Int).length cap) []) c => hW.src 0 (Nat.le_refl 0) c)
  clear c3
  have hW : Blk (w.alloc (.cells (PM.cells ⟨[], 0, 0, popSM 5, 0⟩ μ w.heap.size (.slice none 0 0) (.pointer none)).toArray 121)) w.heap.size (PM.cells ⟨[], 0, 0, popSM 5, 0⟩ μ w.heap.size (.slice none 0 0) (.pointer none)) 121 := Blk.new _ _ _
  simp only [List.length_nil] at hv hsrc ⊢
  have hcap : (0 : Int) ≤ (cap : Int) := by omega
  unfold Mp.ptr at hW ⊢
  go_enter Try.func18, Try.ntmps18
  go_wp2_with fail
  refine wp_region_rg [1, 0, 0, 0, 0, 0, 0, 0, 0, 0, 2, 2, 2, 2] (by kernel_rfl) (by kernel_rfl) ?_
  repeat (first | (with_reducible refine wpH_tail ?_) | ((with_reducible refine wpH_float (fun K hK => ?_)); go_simp; refine hK _ ?_; clear hK K) | ((with_reducible refine wpH_near (fun K hK => ?_)); go_simp; first | (refine hK _ ?_; clear hK K) | (apply Exists.intro; refine ⟨fun _ => ?_, hK _ ?_⟩; (fail); clear hK K)))
  refine wpH_nil ?_
  rintro _ ⟨nq, rfl⟩
  simp only [rgTailOps, Nat.reduceEqDiff, if_true, if_false]
  refine wpList_append_sl _ rfl (.tmp 13) (.tmp 18) 25 25 rfl 39 i0 (.int .u64 0) 1 8 u64_slice hi hz hz1 hz2 rfl (by decide) (b := none) (n := 0) (xs := []) (Sl.nil _ _ _) 0 [] (hsrc.out _ (hv.ext (((Ext.refl [] w).alloc _).drewN nq)) _) (by unfold maxLen; omega) (by omega) ?_
  intro v' b' w1 hsl he1 hb'
  obtain ⟨sa, cap', rfl⟩ := hsl.form
  have hx1 := (hW.drewN nq).ext he1 (by simp)
  have hc1 := hx1.cells
  have hf1 := hx1.free
  simp only [PM.cells, PM.nx] at hc1
  clear hW hi hz hz1 hz2
  have HB := Lib.hid hb'
  clear hb'
  have hE : Ext [] w w1 := (((Ext.refl [] w).alloc _).drewN nq).trans he1 (by simp)
  have hxl := hx1.lt
  go_wp2_with (first | (with_reducible refine NoPanic.normal ?_))
  go_ret
  have hsz1 := hE.size
  have hb2' : ∀ g, b' = some g → g ≠ w.heap.size ∧ w.heap.size ≤ g ∧ g < w1.heap.size := by
    intro g hg
    have hl := hsl.lt hg
    rcases HB.out with h | h
    · rw [h] at hg; cases hg
    · rw [h] at hg
      simp only [Option.some.injEq, drewN_size, World.size_alloc] at hg
      omega
  have hsl2 : Sl (w1.setCell ⟨w.heap.size, 1, none⟩ (.slice sa 0 cap')) 39 1 b' (.slice sa 0 cap') 0 [] := by
    have h1 := hsl.ext (S := [w.heap.size]) ((Ext.refl [w.heap.size] w1).setCell ⟨w.heap.size, 1, none⟩ (.slice sa 0 cap') (.inl (by simp))) (fun g hg hm => (hb2' g hg).1 (by simpa using hm))
    simpa using h1
  refine ⟨w.heap.size, w.heap.size :: b'.toList, rfl, ⟨⟨.slice sa 0 cap', .pointer none, b', (hx1.set 1 _), by simpa [PM.put, u64s] using hsl2, fun g hg => ⟨by simp [hg], (hb2' g hg).1⟩, fun h => by simp [PM.put] at h⟩, by simp, ?_⟩, ?_, ?_, ?_⟩
  · exact ⟨by simp [PM.put], by simp [PM.put], ⟨Int.le_refl 0, by simp [PM.put]⟩, by simp [PM.put, popSM], by simp [PM.put], by simp [PM.put], by simp [PM.put]⟩
  · exact hE.setCell _ _ (.inr (Nat.le_refl _))
  · simp only [World.size_setCell]; omega
  · intro g hg
    simp only [List.mem_cons, Option.mem_toList] at hg
    simp only [World.size_setCell]
    rcases hg with rfl | hg
    · omega
    · have := hb2' g hg; omega

theorem NewPut_c {w : World} {μ : Mp} (ts : List Int) (v : Value) (hv : RdU w v ts) (hu : ∀ x ∈ ts, U64 x) (hμ : IsMap w μ) : Calls Try.prog 18 #[μ.ptr, v] w (NewPM w μ (PM.put ts)) := by
  by_cases hne : ts = []
  · subst hne
    exact NewPut_nil v hv
  · by_cases h4 : 4 ≤ ts.length
    · exact NewPut_aux ts 4 h4 (.inl ⟨h4, rfl⟩) hne v hv hu hμ
    · exact NewPut_aux ts ts.length (Nat.le_refl _) (.inr ⟨by omega, rfl⟩) hne v hv hu hμ

theorem NewTake_c {w : World} {μ : Mp} (hμ : IsMap w μ) : Calls Try.prog 28 #[μ.ptr] w (NewPM w μ PM.take) := by
  have hW : Blk (w.alloc (.cells (PM.cells ⟨[], 0, 0, popSM 5, 0⟩ μ w.heap.size (.slice none 0 0) (.pointer none)).toArray 121)) w.heap.size (PM.cells ⟨[], 0, 0, popSM 5, 0⟩ μ w.heap.size (.slice none 0 0) (.pointer none)) 121 := Blk.new _ _ _
  unfold Mp.ptr at hW ⊢
  go_enter Try.func28, Try.ntmps28
  go_wp2_with (first | (go_at_call 92; refine (Pool_c (hμ.ext0 ((Ext.refl [] w).alloc _))).mono ?_; rintro e w2 ⟨rfl, rfl⟩) | (go_at_call 87; refine (Pop_c' _ _ _ _ _).mono ?_; rintro e w2 ⟨rfl, hq, hz2, he2⟩; have hx3 := hW.ext he2 (by simp); have hc3 := hx3.cells; have hf3 := hx3.free; simp only [PM.cells, PM.nx] at hc3; clear hW))
  go_ret
  rw [World.size_alloc] at hq hz2
  have hni : w.heap.size ≠ w.heap.size + 1 := by omega
  refine ⟨w.heap.size, [w.heap.size, w.heap.size + 1], rfl, ⟨⟨.slice none 0 0, .pointer (some ⟨w.heap.size + 1, 0, none⟩), none, ?_, Sl.nil _ _ _, by simp, fun _ => ⟨w.heap.size + 1, rfl, by simp, by omega, by simp, ?_⟩⟩, by simp, ?_⟩, ?_, ?_, ?_⟩
  · exact (hx3.set 4 (.pointer (some ⟨w.heap.size + 1, 0, none⟩))).set 5 (PM.nx w.heap.size 4)
  · exact ⟨(hq.set_ne _ hni).set_ne _ hni, ⟨⟨Int.le_refl 0, by simp [PM.take, popSM]⟩, ⟨Int.le_refl 0, by simp [PM.take, popSM]⟩, ⟨Int.le_refl 0, by simp [PM.take, popSM]⟩⟩⟩
  · exact ⟨by simp [PM.take], by simp [PM.take], ⟨Int.le_refl 0, by simp [PM.take]⟩, by simp [PM.take, popSM], by simp [PM.take], by simp [PM.take], by simp [PM.take]⟩
  · exact ((((Ext.refl [] w).alloc _).trans he2 (by simp)).setCell _ _ (.inr (Nat.le_refl _))).setCell _ _ (.inr (Nat.le_refl _))
  · simp only [World.size_setCell]; omega
  · intro g hg
    simp only [List.mem_cons, List.not_mem_nil, or_false] at hg
    simp only [World.size_setCell]
    omega

theorem link_range {w : World} {μ : Mp} (hμ : IsMap w μ) (p : Int) (h : 0 ≤ μ.L.link p) : 1 ≤ p ∧ p ≤ μ.L.many := by
  unfold Lay.link Lay.packet at h
  split at h
  · assumption
  · omega
theorem NewBack_c {w : World} {μ : Mp} (hμ : IsMap w μ) (p : Int) : Calls Try.prog 26 #[μ.ptr, .int .i64 p] w (NewPM w μ (PM.back μ.L p)) := by
  have hW : Blk (w.alloc (.cells (PM.cells ⟨[], 0, 0, popSM 5, 0⟩ μ w.heap.size (.slice none 0 0) (.pointer none)).toArray 121)) w.heap.size (PM.cells ⟨[], 0, 0, popSM 5, 0⟩ μ w.heap.size (.slice none 0 0) (.pointer none)) 121 := Blk.new _ _ _
  by_cases hl : 0 ≤ μ.L.link p
  · obtain ⟨p1, p2⟩ := link_range hμ p hl
    have hm := hμ.ok.many.2
    have hu : U32 p := ⟨by omega, by omega⟩
    have hb : PM.back μ.L p = ⟨[], 0, 0, pushSM 5 p, 4⟩ := by simp [PM.back, hl]
    rw [hb]
    generalize hlp : μ.L.link p = lp at hl
    have HL := Lib.hid hlp
    clear hlp hb
    unfold Mp.ptr at hW ⊢
    go_enter Try.func26, Try.ntmps26
    go_wp2_with (first | (go_at_call 81; have hL := Link_c (hμ.ext0 ((Ext.refl [] w).alloc (.cells (PM.cells ⟨[], 0, 0, popSM 5, 0⟩ μ w.heap.size (.slice none 0 0) (.pointer none)).toArray 121))) p; rw [HL.out] at hL; refine hL.mono ?_; clear hL; rintro e w2 ⟨rfl, rfl⟩) | (go_at_call 88; refine (Spare_c (hμ.ext0 ((Ext.refl [] w).alloc _))).mono ?_; rintro e w2 ⟨rfl, rfl⟩) | (go_at_call 99; refine (Push_c' _ _ _ _ _ _ hu).mono ?_; rintro e w2 ⟨rfl, hq, hz2, he2⟩; have hx3 := hW.ext he2 (by simp); have hc3 := hx3.cells; have hf3 := hx3.free; simp only [PM.cells, PM.nx] at hc3; clear hW))
    go_ret
    rw [World.size_alloc] at hq hz2
    have hni : w.heap.size ≠ w.heap.size + 1 := by omega
    refine ⟨w.heap.size, [w.heap.size, w.heap.size + 1], rfl, ⟨⟨.slice none 0 0, .pointer (some ⟨w.heap.size + 1, 0, none⟩), none, ?_, Sl.nil _ _ _, by simp, fun _ => ⟨w.heap.size + 1, rfl, by simp, by omega, by simp, ?_⟩⟩, by simp, ?_⟩, ?_, ?_, ?_⟩
    · exact (hx3.set 4 (.pointer (some ⟨w.heap.size + 1, 0, none⟩))).set 5 (PM.nx w.heap.size 4)
    · exact ⟨(hq.set_ne _ hni).set_ne _ hni, ⟨hu, ⟨Int.le_refl 0, by simp [pushSM]⟩, ⟨Int.le_refl 0, by simp [pushSM]⟩⟩⟩
    · exact ⟨by simp, by simp, ⟨Int.le_refl 0, by simp⟩, by simp [pushSM], by simp, by simp, by simp⟩
    · exact ((((Ext.refl [] w).alloc _).trans he2 (by simp)).setCell _ _ (.inr (Nat.le_refl _))).setCell _ _ (.inr (Nat.le_refl _))
    · simp only [World.size_setCell]; omega
    · intro g hg
      simp only [List.mem_cons, List.not_mem_nil, or_false] at hg
      simp only [World.size_setCell]
      omega
  · have hb : PM.back μ.L p = ⟨[], 0, 0, pushSM 5 p, 0⟩ := by simp [PM.back, hl]
    rw [hb]
    generalize hlp : μ.L.link p = lp at hl
    have HL := Lib.hid hlp
    clear hlp hb
    unfold Mp.ptr at hW ⊢
    go_enter Try.func26, Try.ntmps26
    go_wp2_with (first | (go_at_call 81; have hL := Link_c (hμ.ext0 ((Ext.refl [] w).alloc (.cells (PM.cells ⟨[], 0, 0, popSM 5, 0⟩ μ w.heap.size (.slice none 0 0) (.pointer none)).toArray 121))) p; rw [HL.out] at hL; refine hL.mono ?_; clear hL; rintro e w2 ⟨rfl, rfl⟩))
    go_ret
    refine ⟨w.heap.size, [w.heap.size], rfl, ⟨⟨.slice none 0 0, .pointer none, none, hW, Sl.nil _ _ _, by simp, by simp⟩, by simp, ?_⟩, (Ext.refl [] w).alloc _, by simp, by simp⟩
    exact ⟨by simp, by simp, ⟨Int.le_refl 0, by simp⟩, by simp [pushSM], by simp, by simp, by simp⟩

theorem PPacket_c {w : World} {μ : Mp} {x : Nat} {B : List Nat} {m : PM} (H : IsPM w μ x B m) : Calls Try.prog 30 #[.pointer (some ⟨x, 0, none⟩)] w fun e w' => e = .returned (.int .i64 (if m.pc = 0 then m.p else 0)) ∧ w = w' := by
  obtain ⟨tv, iv, tb, h1, _⟩ := H.ex
  have hpc := H.ok.pc
  clear H
  have hc := h1.cells
  obtain ⟨tasks, j, p, sm, pc⟩ := m
  by_cases hz : pc = 0
  · subst hz
    simp only [if_true]
    simp only [PM.cells, PM.nx] at hc
    go_enter Try.func30, Try.ntmps30
    go_wp2
    go_ret
    exact ⟨rfl, rfl⟩
  · simp only [hz, if_false]
    obtain ⟨fn, hfn⟩ := PM.nx_func x pc hz hpc
    simp only [PM.cells] at hc
    rw [hfn] at hc
    clear hfn
    go_enter Try.func30, Try.ntmps30
    go_wp2
    go_ret
    exact ⟨rfl, rfl⟩
end Go.Proofs.Ytcgnficlcgmffaa
