/-
  Package cells, one access a time: its contracts.
-/
import Derived.Test.YtcgnficlcgmffaaChecked
import Derived.Test.YtcgnficlcgmffaaWords
namespace Go.Proofs.Ytcgnficlcgmffaa
open Go.RowKit

structure IsSt (w : World) (σ : St) : Prop where
  hs : Blk w σ.s [.slice (some ⟨σ.sb, 0, none⟩) σ.mem.length (σ.mem.length + σ.spare.length), .int .i64 σ.n] 116
  hb : Blk w σ.sb (u64s σ.mem ++ σ.spare) 39
  len : σ.mem.length ≤ 1000000
  ok : ∀ v ∈ σ.mem, U64 v
theorem IsSt.ne {w : World} {σ : St} (h : IsSt w σ) : σ.s ≠ σ.sb := h.hs.ne_of h.hb (by decide)
theorem IsSt.set {w : World} {σ : St} (h : IsSt w σ) {p : Addr} (v : Value) (h1 : p.block ≠ σ.s) (h2 : p.block ≠ σ.sb) : IsSt (w.setCell p v) σ := ⟨h.hs.set_ne v h1, h.hb.set_ne v h2, h.len, h.ok⟩
theorem IsSt.drewN {w : World} {σ : St} (h : IsSt w σ) (n : Nat) : IsSt (w.drewN n) σ := ⟨h.hs, h.hb, h.len, h.ok⟩
theorem IsSt.alloc {w : World} {σ : St} (h : IsSt w σ) (o : Obj) : IsSt (w.alloc o) σ := ⟨h.hs.alloc o, h.hb.alloc o, h.len, h.ok⟩
theorem IsSt.ext {w w' : World} {σ : St} {S : List Nat} (h : IsSt w σ) (he : Ext S w w') (h1 : σ.s ∉ S) (h2 : σ.sb ∉ S) : IsSt w' σ := ⟨h.hs.ext he h1, h.hb.ext he h2, h.len, h.ok⟩

theorem word_nil (at_ : Int) (w : World) : Calls Try.prog 90 #[.pointer none, .int .i64 at_] w fun e w' => e = .returned (.pointer none) ∧ w = w' := by
  go_enter Try.func90, Try.ntmps90
  go_wp2
  go_ret
  exact ⟨rfl, rfl⟩

theorem word_in (σ : St) (at_ : Int) (w : World) (h : IsSt w σ) (ha : 0 ≤ at_) (hl : at_ < σ.mem.length) :
    Calls Try.prog 90 #[.pointer (some ⟨σ.s, 0, none⟩), .int .i64 at_] w fun e w' =>
      e = .returned (.pointer (some ⟨σ.sb, at_.toNat, none⟩)) ∧ w.setCell ⟨σ.s, 1, none⟩ (.int .i64 (wrap64 (σ.n + 1))) = w' := by
  obtain ⟨s, sb, spare, mem, n⟩ := σ
  have h0 := h.hs.cell 0 rfl
  have h1 := h.hs.cell 1 rfl
  have f1 := h.hs.free 1
  have hlen := h.len
  simp only at h0 h1 f1 hlen hl ⊢
  clear h
  go_enter Try.func90, Try.ntmps90
  go_wp2
  go_ret
  exact ⟨rfl, rfl⟩

theorem word_out (σ : St) (at_ : Int) (w : World) (h : IsSt w σ) (ha : at_ < 0 ∨ σ.mem.length ≤ at_) :
    Calls Try.prog 90 #[.pointer (some ⟨σ.s, 0, none⟩), .int .i64 at_] w fun e w' =>
      e = .returned (.pointer none) ∧ w.setCell ⟨σ.s, 1, none⟩ (.int .i64 (wrap64 (σ.n + 1))) = w' := by
  obtain ⟨s, sb, spare, mem, n⟩ := σ
  have h0 := h.hs.cell 0 rfl
  have h1 := h.hs.cell 1 rfl
  have f1 := h.hs.free 1
  have hlen := h.len
  simp only at h0 h1 f1 hlen ha ⊢
  clear h
  rcases ha with ha | ha
  all_goals
    go_enter Try.func90, Try.ntmps90
    go_wp2
    go_ret
    exact ⟨rfl, rfl⟩

theorem IsSt.tick_world {w : World} {σ : St} (h : IsSt w σ) : IsSt (w.setCell ⟨σ.s, 1, none⟩ (.int .i64 (wrap64 (σ.n + 1)))) σ.tick ∧ Ext [σ.s, σ.sb] w (w.setCell ⟨σ.s, 1, none⟩ (.int .i64 (wrap64 (σ.n + 1)))) :=
  ⟨⟨h.hs.set 1 _, h.hb.set_ne _ h.ne, h.len, h.ok⟩, (Ext.refl _ _).setCell _ _ (.inl (by simp))⟩
theorem IsSt.load_u64 {w : World} {σ : St} (h : IsSt w σ) (a : Int) : U64 (σ.load a) := by
  unfold St.load ld
  split
  · rename_i hh
    refine h.ok _ ?_
    have h1 : a.toNat < σ.mem.length := by omega
    rw [List.getD_eq_getElem?_getD, List.getElem?_eq_getElem h1]; exact List.getElem_mem h1
  · exact ⟨by omega, by omega⟩
theorem IsSt.put_world {w : World} {σ : St} (h : IsSt w σ) {at_ : Int} (v : Int) (hv : U64 v) (ha : 0 ≤ at_) (hl : at_ < σ.mem.length) :
    IsSt ((w.setCell ⟨σ.s, 1, none⟩ (.int .i64 (wrap64 (σ.n + 1)))).setCell ⟨σ.sb, at_.toNat, none⟩ (.int .u64 v)) (σ.put at_ v) ∧
      Ext [σ.s, σ.sb] w ((w.setCell ⟨σ.s, 1, none⟩ (.int .i64 (wrap64 (σ.n + 1)))).setCell ⟨σ.sb, at_.toNat, none⟩ (.int .u64 v)) := by
  obtain ⟨h1, h2⟩ := h.tick_world
  refine ⟨⟨?_, ?_, ?_, fun x hx => ?_⟩, h2.setCell _ _ (.inl (by simp))⟩
  · refine (h1.hs.set_ne _ h.ne.symm).congr ?_
    simp [St.tick, St.put]
  · refine (h1.hb.set _ _).congr ?_
    have : at_.toNat < σ.mem.length := by omega
    simp [St.tick, St.put, pt, ha, hl, u64s, List.set_append, this]
  · simpa [St.put] using h.len
  · rcases pt_mem hx with hx | rfl
    · exact h.ok x hx
    · exact hv
theorem IsSt.cell {w : World} {σ : St} (h : IsSt w σ) {at_ : Int} (ha : 0 ≤ at_) (hl : at_ < σ.mem.length) : w.cell? ⟨σ.sb, at_.toNat, none⟩ = some (.int .u64 (σ.load at_)) := by
  have h1 : at_.toNat < σ.mem.length := by omega
  rw [h.hb.cells, List.getElem?_append_left (by simpa using h1), u64s_get _ _ h1]
  simp [St.load, ld, ha, hl]

theorem IsSt.cell_tick {w : World} {σ : St} (h : IsSt w σ) {at_ : Int} (ha : 0 ≤ at_) (hl : at_ < σ.mem.length) :
    (w.setCell ⟨σ.s, 1, none⟩ (.int .i64 (wrap64 (σ.n + 1)))).cell? ⟨σ.sb, at_.toNat, none⟩ = some (.int .u64 (σ.load at_)) := h.tick_world.1.cell (at_ := at_) ha hl

theorem Load_c (σ : St) (at_ : Int) (w : World) (h : IsSt w σ) :
    Calls Try.prog 31 #[.pointer (some ⟨σ.s, 0, none⟩), .int .i64 at_] w fun e w' =>
      e = .returned (.int .u64 (σ.load at_)) ∧ IsSt w' σ.tick ∧ Ext [σ.s, σ.sb] w w' := by
  by_cases hin : 0 ≤ at_ ∧ at_ < σ.mem.length
  · obtain ⟨ha, hl⟩ := hin
    have hc := h.cell_tick ha hl
    have ht := h.tick_world
    go_enter Try.func31, Try.ntmps31
    go_wp2_with (go_at_call 90; refine (word_in σ at_ _ h ha hl).mono ?_; rintro e w1 ⟨rfl, rfl⟩)
    go_ret
    exact ⟨rfl, ht⟩
  · have ha : at_ < 0 ∨ σ.mem.length ≤ at_ := by omega
    have ht := h.tick_world
    have hz : σ.load at_ = 0 := by simp [St.load, ld, hin]
    go_enter Try.func31, Try.ntmps31
    go_wp2_with (go_at_call 90; refine (word_out σ at_ _ h ha).mono ?_; rintro e w1 ⟨rfl, rfl⟩)
    go_ret
    exact ⟨by rw [hz]; rfl, ht⟩

theorem Put_c (σ : St) (at_ v : Int) (w : World) (h : IsSt w σ) (hv : U64 v) :
    Calls Try.prog 19 #[.pointer (some ⟨σ.s, 0, none⟩), .int .i64 at_, .int .u64 v] w fun e w' =>
      e = .returned (.tuple #[]) ∧ IsSt w' (σ.put at_ v) ∧ Ext [σ.s, σ.sb] w w' := by
  by_cases hin : 0 ≤ at_ ∧ at_ < σ.mem.length
  · obtain ⟨ha, hl⟩ := hin
    have hc := h.cell_tick ha hl
    have hf := h.tick_world.1.hb.free at_.toNat
    simp only [St.tick] at hf
    have ht := h.put_world v hv ha hl
    go_enter Try.func19, Try.ntmps19
    go_wp2_with (go_at_call 90; refine (word_in σ at_ _ h ha hl).mono ?_; rintro e w1 ⟨rfl, rfl⟩)
    go_end0
    exact ⟨rfl, ht⟩
  · have ha : at_ < 0 ∨ σ.mem.length ≤ at_ := by omega
    have ht := h.tick_world
    have hz : σ.put at_ v = σ.tick := by simp [St.put, St.tick, pt, hin]
    go_enter Try.func19, Try.ntmps19
    go_wp2_with (go_at_call 90; refine (word_out σ at_ _ h ha).mono ?_; rintro e w1 ⟨rfl, rfl⟩)
    go_end0
    exact ⟨rfl, by rw [hz]; exact ht⟩

theorem Swap_c (σ : St) (at_ old v : Int) (w : World) (h : IsSt w σ) (hv : U64 v) :
    Calls Try.prog 201 #[.pointer (some ⟨σ.s, 0, none⟩), .int .i64 at_, .int .u64 old, .int .u64 v] w fun e w' =>
      e = .returned (.bool (σ.swaps at_ old)) ∧ IsSt w' (σ.swap at_ old v) ∧ Ext [σ.s, σ.sb] w w' := by
  by_cases hin : 0 ≤ at_ ∧ at_ < σ.mem.length
  · obtain ⟨ha, hl⟩ := hin
    have hc := h.cell_tick ha hl
    have hf := h.tick_world.1.hb.free at_.toNat
    simp only [St.tick] at hf
    by_cases ho : σ.load at_ = old
    · have ht := h.put_world v hv ha hl
      have hs : σ.swaps at_ old = true := by simp [St.swaps, ha, hl, ho]
      have hw : σ.swap at_ old v = σ.put at_ v := by simp [St.swap, hs]
      rw [hs, hw]
      rw [ho] at hc
      clear ho hs hw
      go_enter Try.func201, Try.ntmps201
      go_wp2_with (go_at_call 90; refine (word_in σ at_ _ h ha hl).mono ?_; rintro e w1 ⟨rfl, rfl⟩)
      go_ret
      exact ⟨rfl, ht⟩
    · have ht := h.tick_world
      have hs : σ.swaps at_ old = false := by simp [St.swaps, ho]
      have hw : σ.swap at_ old v = σ.tick := by simp [St.swap, hs]
      have ho' : (σ.load at_ != old) = true := by simpa using ho
      rw [hs, hw]
      clear ho hs hw
      go_enter Try.func201, Try.ntmps201
      go_wp2_with (go_at_call 90; refine (word_in σ at_ _ h ha hl).mono ?_; rintro e w1 ⟨rfl, rfl⟩)
      go_ret
      exact ⟨rfl, ht⟩
  · have ha : at_ < 0 ∨ σ.mem.length ≤ at_ := by omega
    have ht := h.tick_world
    have hs : σ.swaps at_ old = false := by simp only [St.swaps, decide_eq_false_iff_not]; omega
    have hw : σ.swap at_ old v = σ.tick := by simp [St.swap, hs]
    rw [hs, hw]
    clear hs hw
    go_enter Try.func201, Try.ntmps201
    go_wp2_with (go_at_call 90; refine (word_out σ at_ _ h ha).mono ?_; rintro e w1 ⟨rfl, rfl⟩)
    go_ret
    exact ⟨rfl, ht⟩

theorem Add_c (σ : St) (at_ v : Int) (w : World) (h : IsSt w σ) :
    Calls Try.prog 190 #[.pointer (some ⟨σ.s, 0, none⟩), .int .i64 at_, .int .u64 v] w fun e w' =>
      e = .returned (.int .u64 (σ.load at_)) ∧ IsSt w' (σ.add at_ v) ∧ Ext [σ.s, σ.sb] w w' := by
  by_cases hin : 0 ≤ at_ ∧ at_ < σ.mem.length
  · obtain ⟨ha, hl⟩ := hin
    have hc := h.cell_tick ha hl
    have hf := h.tick_world.1.hb.free at_.toNat
    simp only [St.tick] at hf
    have ht := h.put_world (IntKind.u64.wrap (σ.load at_ + v)) (wrap_u64 _) ha hl
    go_enter Try.func190, Try.ntmps190
    go_wp2_with (go_at_call 90; refine (word_in σ at_ _ h ha hl).mono ?_; rintro e w1 ⟨rfl, rfl⟩)
    go_ret
    exact ⟨rfl, ht⟩
  · have ha : at_ < 0 ∨ σ.mem.length ≤ at_ := by omega
    have ht := h.tick_world
    have hz : σ.load at_ = 0 := by simp [St.load, ld, hin]
    have hw : σ.add at_ v = σ.tick := by simp [St.add, St.put, St.tick, pt, hin]
    rw [hz, hw]
    clear hz hw
    go_enter Try.func190, Try.ntmps190
    go_wp2_with (go_at_call 90; refine (word_out σ at_ _ h ha).mono ?_; rintro e w1 ⟨rfl, rfl⟩)
    go_ret
    exact ⟨rfl, ht⟩

theorem Count_c (σ : St) (w : World) (h : IsSt w σ) :
    Calls Try.prog 37 #[.pointer (some ⟨σ.s, 0, none⟩)] w fun e w' => e = .returned (.int .i64 σ.n) ∧ w = w' := by
  have h1 := h.hs.cell 1 rfl
  clear h
  go_enter Try.func37, Try.ntmps37
  go_wp2
  go_ret
  exact ⟨rfl, rfl⟩
end Go.Proofs.Ytcgnficlcgmffaa
