/-
  Package cells: a new store, and all its words.
-/
import Derived.Laws.CopyOwn
import Derived.Deep.OwnRows
import Derived.Test.YtcgnficlcgmffaaPacketNew
namespace Go.Proofs.Ytcgnficlcgmffaa
open Go.RowKit

@[go_sem] theorem eql_u64s_nil (a : Option Addr) (l c : Nat) (w : World) : (binOp .eql 25 (.slice a l c) (.slice none 0 0)).run Try.prog w = .ok (.bool a.isNone) w :=
  Lib.run_eql_slice_nil w _ _ a l c 0 0 u64_slice
set_option maxRecDepth 100000 in
theorem Clone_c {w : World} (ts : List Int) (hne : ts ≠ []) (hl : ts.length ≤ 1000000) (v : Value) (hv : RdU w v ts) :
    Calls Try.prog 79 #[v] w fun e w' => ∃ g spare, e = .returned (.slice (some ⟨g, 0, none⟩) ts.length (ts.length + spare.length)) ∧ Blk w' g (u64s ts ++ spare) 39 ∧ Ext [] w w' ∧ w.heap.size ≤ g := by
  obtain ⟨i0, hi, hz, hz1, hz2⟩ := info_parts u64_info
  have hsrc := Lib.hid (fun W (hW : RdU W v ts) => hW)
  obtain ⟨a, cap, rfl, c1, c2, c3⟩ := id hv
  have hp := List.length_pos_iff.2 hne
  obtain ⟨b, off, rfl, hc⟩ := c3 hp
  have HC := Lib.hid hc
  have HV := Lib.hid hv
  have HI := Lib.hid hi
  have HZ := Lib.hid hz
  have HZ1 := Lib.hid hz1
  have HZ2 := Lib.hid hz2
  clear hi hz hz1 hz2 hc hv c3 hsrc
  have hS0 : Sl (w.alloc (.cells #[] 39)) 39 1 (some w.heap.size) (.slice (some ⟨w.heap.size, 0, none⟩) 0 0) 0 [] := Sl.of_blk (spare := []) (Blk.new w [] _) rfl rfl (Nat.le_refl _) (by decide)
  go_enter Try.func79, Try.ntmps79
  go_wp2_with (at_builtin; refine wpList_append_sl _ rfl (.tmp 5) (.tmp 6) 25 25 rfl 39 i0 (.int .u64 0) 1 8 u64_slice HI.out HZ.out HZ1.out HZ2.out rfl (by decide) hS0 ts.length (u64s ts) (Src.ofSlice _ u64_slice ⟨b, off, none⟩ ts.length cap _ (by simp) (fun j u hj => ?_) (u64s_one _)) (by unfold maxLen; omega) (by omega) ?_; rotate_left; intro v' b' w5 hsl5 he5 hb5; obtain ⟨ra5, rc5, rfl⟩ := hsl5.form; have HB5 := Lib.hid hb5; clear hb5)
  · go_ret
    have he : Ext [] w w5 := ((Ext.refl [] w).alloc _).ofOpt he5 (fun g hg => by cases hg; exact Nat.le_refl _)
    obtain ⟨b', hb'⟩ : ∃ g, b' = some g := by
      rcases HB5.out with h | h
      · exact ⟨_, h⟩
      · exact ⟨_, h⟩
    subst hb'
    have hgw : w.heap.size ≤ b' := by
      rcases HB5.out with h | h
      · cases h; exact Nat.le_refl _
      · cases h; simp
    obtain ⟨_, cap5, spare, e5, hB, hc5, _, _⟩ := hsl5
    cases e5
    have hlc : rc5 = ts.length + spare.length := by simpa using hc5.symm
    subst hlc
    exact ⟨b', spare, rfl, by simpa using hB, he, hgw⟩
  · have hj' : j < ts.length := by simpa using (List.getElem?_eq_some_iff.1 hj).1
    have h2 := ((Ext.refl [] w).alloc (.cells #[] 39)).same b (World.block_lt_of_cell? _ _ (HC.out 0 hp)) (by simp)
    rw [add_off]
    rw [World.cell?_of_block (a := ⟨b, off + j, none⟩) h2, HC.out j hj', ← hj, u64s_get _ _ hj']

/-- A new store. -/
theorem SNew_c {w : World} (ts : List Int) (hne : ts ≠ []) (hl : ts.length ≤ 1000000) (hu : ∀ v ∈ ts, U64 v) (v : Value) (hv : RdU w v ts) :
    Calls Try.prog 15 #[v] w fun e w' => ∃ σ, e = .returned (.pointer (some ⟨σ.s, 0, none⟩)) ∧ IsSt w' σ ∧ σ.mem = ts ∧ σ.n = 0 ∧ Ext [] w w' ∧ w.heap.size ≤ σ.s ∧ w.heap.size ≤ σ.sb := by
  have HC := Lib.hid (Clone_c ts hne hl v hv)
  obtain ⟨a, cap, rfl, _⟩ := hv
  have HU := Lib.hid hu
  clear hu
  go_enter Try.func15, Try.ntmps15
  go_wp2_with (go_at_call 79; refine HC.out.mono ?_; rintro e w1 ⟨g, spare, rfl, hB, he, hg⟩)
  go_ret
  refine ⟨⟨w1.heap.size, g, spare, ts, 0⟩, rfl, ⟨Blk.new _ _ _, hB.alloc _, hl, HU.out⟩, rfl, rfl, he.alloc _, he.size, hg⟩

set_option maxRecDepth 100000 in
/-- All words. -/
theorem SAll_c {w : World} (σ : St) (h : IsSt w σ) :
    Calls Try.prog 22 #[.pointer (some ⟨σ.s, 0, none⟩)] w fun e w' => ∃ g, e = .returned (.slice (some ⟨g, 0, none⟩) σ.mem.length σ.mem.length) ∧ Blk w' g (u64s σ.mem) 39 ∧ Ext [] w w' ∧ w.heap.size ≤ g := by
  obtain ⟨s, sb, spare, mem, n⟩ := σ
  obtain ⟨i0, hi, hz, hz1, hz2⟩ := info_parts u64_info
  have HI := Lib.hid hi
  have HZ := Lib.hid hz
  have HZ1 := Lib.hid hz1
  have HZ2 := Lib.hid hz2
  clear hi hz hz1 hz2
  have hc := h.hs.cells
  have hl : mem.length ≤ 1000000 := h.len
  have HB := Lib.hid h.hb
  have hmade : (madeCells #[Value.int .u64 0] mem.length).toList.length = mem.length := by simp [madeCells]
  have HM := Lib.hid hmade
  have hcA := (h.hs.alloc (.cells (madeCells #[Value.int .u64 0] mem.length) 39)).cells
  have hsb := h.hb.lt
  have hbA := h.hb.alloc (.cells (madeCells #[Value.int .u64 0] mem.length) 39)
  have HS := Lib.hid (show ∀ j v, (u64s mem)[j]? = some v → (w.alloc (.cells (madeCells #[Value.int .u64 0] mem.length) 39)).cell? ((⟨sb, 0, none⟩ : Addr).add j) = some v from fun j v hj => by
    rw [add_off, Nat.zero_add, hbA.cells]
    have hl : j < (u64s mem).length := (List.getElem?_eq_some_iff.1 hj).1
    rw [List.getElem?_append_left hl, hj])
  have HG := Lib.hid (show (w.alloc (.cells (madeCells #[Value.int .u64 0] mem.length) 39)).heap[w.heap.size]? = some (.cells (madeCells #[Value.int .u64 0] mem.length).toList.toArray 39 (0, 0)) from Blk.new w (madeCells #[Value.int .u64 0] mem.length).toList _)
  clear h hmade hbA
  simp only at hc hcA
  go_enter Try.func22, Try.ntmps22
  go_wp2_with (first | (at_make; refine wpList_make_row _ rfl _ _ 25 rfl 39 i0 (.int .u64 0) u64_slice HI.out HZ.out HZ1.out rfl .i64 .i64 mem.length rfl rfl (by rw [HZ2.out]; omega) (by omega) ?_) | (refine wpList_copy_splice rfl (.tmp 12) (.tmp 16) 25 25 rfl 39 u64_slice (by rw [HI.out]; simp [HZ1.out]) _ _ _ _ _ _ rfl rfl w.heap.size 0 (madeCells #[Value.int .u64 0] mem.length).toList 39 HG.out (u64s mem) (by simp) (fun _ => ⟨rfl, _, rfl, HS.out⟩) (by rw [HM.out]; simp) (u64s_one _) w.heap.size w (((Ext.refl [] w).alloc _).below) (Nat.le_refl _) ?_; intro w5 hg5 hb5))
  go_ret
  refine ⟨w.heap.size, rfl, ?_, Below.ext hb5, Nat.le_refl _⟩
  have e : splice (madeCells #[Value.int .u64 0] mem.length).toList 0 (u64s mem) = u64s mem := by
    unfold splice
    rw [List.drop_eq_nil_of_le (by rw [HM.out]; simp)]
    simp
  have h := hg5.out
  rw [e] at h
  exact h
end Go.Proofs.Ytcgnficlcgmffaa
