/-
  Law 11: the document's example.
-/
import Derived.Test.YtcgnficlcgmffaaHeld
import Derived.Test.YtcgnficlcgmffaaRun
import Derived.Test.YtcgnficlcgmffaaPacketNew
namespace Go.Proofs.Ytcgnficlcgmffaa
open Go.RowKit

theorem PM.step_s (L : Lay) (σ : St) (m : PM) : (PM.step L σ m).1.s = σ.s ∧ (PM.step L σ m).1.sb = σ.sb := by
  have h1 := SM.step_s L.link σ m.x
  have h2 := SM.step_sb L.link σ m.x
  unfold PM.step
  split
  · simp only
    split
    · split <;> exact ⟨h1, h2⟩
    · exact ⟨h1, h2⟩
  · exact ⟨rfl, rfl⟩
  · exact ⟨rfl, rfl⟩
  · simp only
    split <;> exact ⟨h1, h2⟩
  · exact ⟨rfl, rfl⟩
/-- A packet machine at x, a memory at s, in a world that w has become: but for S nothing that was there has changed. -/
structure PAt (S : List Nat) (w : World) (μ : Mp) (hi s sb x : Nat) (y : List Int × PM) (W : World) : Prop where
  ex : ∃ σ B, Env W μ σ hi ∧ IsPM W μ x B y.2 ∧ σ.mem = y.1 ∧ σ.s = s ∧ σ.sb = sb ∧ ∀ g ∈ B, hi ≤ g
  ext : Ext S w W
  new : (s ∈ S ∨ w.heap.size ≤ s) ∧ (sb ∈ S ∨ w.heap.size ≤ sb) ∧ w.heap.size ≤ hi
theorem PAt.step {S : List Nat} {w : World} {μ : Mp} {hi s sb x : Nat} {y : List Int × PM} {W : World} (h : PAt S w μ hi s sb x y W) :
    Calls Try.prog 29 #[.pointer (some ⟨x, 0, none⟩), .pointer (some ⟨s, 0, none⟩)] W fun e w' => e = .returned (.bool (decide ((PM.on μ.L y).2.pc = 0))) ∧ PAt S w μ hi s sb x (PM.on μ.L y) w' := by
  obtain ⟨⟨σ, B, E, H, h1, rfl, rfl, hB⟩, he, n1, n2, n3⟩ := h
  refine (PMStep_c E H hB).mono ?_
  rintro e w' ⟨rfl, E', B', H', he', hB'⟩
  obtain ⟨mem, m⟩ := y
  simp only at h1
  subst h1
  have hs := PM.on_step μ.L σ m
  rw [← hs]
  refine ⟨rfl, ⟨⟨_, B', E', H', rfl, ?_, ?_, fun g hg => ?_⟩, he.trans he' (fun g hg => ?_), n1, n2, n3⟩⟩
  · exact (PM.step_s μ.L σ m).1
  · exact (PM.step_s μ.L σ m).2
  · rcases hB' g hg with h | h
    · exact hB g h
    · have := E.le; omega
  · simp only [List.mem_cons] at hg
    rcases hg with rfl | rfl | hg
    · exact n1
    · exact n2
    · exact .inr (Nat.le_trans n3 (hB g hg))
theorem Env.up {w : World} {μ : Mp} {σ : St} {hi hi' : Nat} (E : Env w μ σ hi) (h : hi ≤ hi') (h' : hi' ≤ w.heap.size) : Env w μ σ hi' :=
  ⟨E.map, E.st, Nat.lt_of_lt_of_le E.m1 h, Nat.lt_of_lt_of_le E.m2 h, Nat.lt_of_lt_of_le E.m3 h, Nat.lt_of_lt_of_le E.s1 h, Nat.lt_of_lt_of_le E.s2 h, E.d, h'⟩
/-- A machine's blocks are there. -/
theorem IsPM.trim {w : World} {μ : Mp} {x : Nat} {B : List Nat} {m : PM} (H : IsPM w μ x B m) : ∃ B', IsPM w μ x B' m ∧ ∀ g ∈ B', g ∈ B ∧ g < w.heap.size := by
  obtain ⟨tv, iv, tb, h1, h2, h3, h4⟩ := H.ex
  by_cases hp : m.pc = 1 ∨ m.pc = 4
  · obtain ⟨i, e, a, b, c, d⟩ := h4 hp
    refine ⟨x :: i :: tb.toList, ⟨⟨tv, iv, tb, h1, h2, fun g hg => ⟨by simp [hg], (h3 g hg).2⟩, fun _ => ⟨i, e, by simp, b, c, d⟩⟩, by simp, H.ok⟩, fun g hg => ?_⟩
    simp only [List.mem_cons, Option.mem_toList] at hg
    rcases hg with rfl | rfl | hg
    · exact ⟨H.mem, h1.lt⟩
    · exact ⟨a, d.blk.lt⟩
    · exact ⟨(h3 g hg).1, h2.lt hg⟩
  · refine ⟨x :: tb.toList, ⟨⟨tv, iv, tb, h1, h2, fun g hg => ⟨by simp [hg], (h3 g hg).2⟩, fun h => absurd h hp⟩, by simp, H.ok⟩, fun g hg => ?_⟩
    simp only [List.mem_cons, Option.mem_toList] at hg
    rcases hg with rfl | hg
    · exact ⟨H.mem, h1.lt⟩
    · exact ⟨(h3 g hg).1, h2.lt hg⟩

def awk11 : Cfg := ⟨1, 0, 0, 0, 0, 1, 1, 2, 1, 1, 1, 1⟩
theorem awk11_ok : awk11.Ok := ⟨⟨by decide, by decide, by decide, by decide, by decide⟩, by decide, by decide, by decide, by decide, by decide, by decide, by decide, by decide⟩
def awkA (k : Nat) : List Int × PM := PM.runs awk11.lay k (awk11.first, PM.put [7, 8])
def awkB (k : Nat) : List Int × PM := PM.runs awk11.lay k ((awkA 9).1, PM.take)
theorem awkA_pc : ∀ k, k < 9 → (decide ((awkA (k + 1)).2.pc = 0)) = decide (k = 8) := by decide +kernel
theorem awkA_p : (awkA 9).2.p = 1 := by decide +kernel
theorem awkA_held : heldM awk11.lay (awkA 9).1 = [7, 8] := by decide +kernel
theorem awkB_pc : ∀ k, k < 3 → (decide ((awkB (k + 1)).2.pc = 0)) = decide (k = 2) := by decide +kernel
theorem awkB_p : (awkB 3).2.p = 1 := by decide +kernel

/-- A map, and a memory as it is at first. -/
theorem Env.mk0 {w : World} {μ : Mp} {σ : St} (hM : IsMap w μ) (hσ : IsSt w σ) (h1 : σ.s ≠ μ.m ∧ σ.s ≠ μ.ab ∧ σ.s ≠ μ.rb ∧ σ.sb ≠ μ.m ∧ σ.sb ≠ μ.ab ∧ σ.sb ≠ μ.rb) : Env w μ σ w.heap.size :=
  ⟨hM, hσ, hM.hm.lt, hM.ha.lt, hM.hr.lt, hσ.hs.lt, hσ.hb.lt, h1, Nat.le_refl _⟩
theorem NewPM.at {S : List Nat} {w0 w w' : World} {μ : Mp} {σ : St} {hi : Nat} {m : PM} {e : Ending} (h : NewPM w μ m e w') (E : Env w μ σ hi) (he : Ext S w0 w) (hn : (σ.s ∈ S ∨ w0.heap.size ≤ σ.s) ∧ (σ.sb ∈ S ∨ w0.heap.size ≤ σ.sb) ∧ w0.heap.size ≤ hi) :
    ∃ x, e = .returned (.pointer (some ⟨x, 0, none⟩)) ∧ PAt S w0 μ hi σ.s σ.sb x (σ.mem, m) w' := by
  obtain ⟨x, B, rfl, H, he', _, hB⟩ := h
  have hle := E.le
  exact ⟨x, rfl, ⟨⟨σ, B, E.ext0 he' (by simp), H, rfl, rfl, rfl, fun g hg => by have := (hB g hg).1; omega⟩, he.trans he' (by simp), hn⟩⟩
theorem RdU.two (w : World) (b : Nat) (l : List Int) (T : TypeId) (h : Blk w b (u64s l) T) (hl : l.length ≤ maxLen) : RdU w (.slice (some ⟨b, 0, none⟩) l.length l.length) l :=
  ⟨_, _, rfl, Nat.le_refl _, hl, fun _ => ⟨b, 0, rfl, fun j hj => by rw [Nat.zero_add, h.cells, u64s_get _ _ hj]⟩⟩

theorem SNewF_c (c : Cfg) (hc : c.Ok) {w : World} {g : Nat} (hB : Blk w g (u64s c.first) 39) : Calls Try.prog 15 #[.slice (some ⟨g, 0, none⟩) c.lay.all.toNat c.lay.all.toNat] w fun e w' =>
    ∃ σ, e = .returned (.pointer (some ⟨σ.s, 0, none⟩)) ∧ IsSt w' σ ∧ σ.mem = c.first ∧ σ.n = 0 ∧ Ext [] w w' ∧ w.heap.size ≤ σ.s ∧ w.heap.size ≤ σ.sb := by
  have hl := Cfg.first_len hc
  have ha := (c.lay_ok hc).all
  have hp := Cfg.place_in hc (Cfg.mem_single (k := 5) (c := c) (by omega))
  have e : c.lay.all.toNat = c.first.length := by omega
  rw [e]
  refine SNew_c c.first (fun h => ?_) (by omega) (Cfg.first_wds hc) _ (RdU.two w g c.first _ hB (by unfold maxLen; omega))
  rw [h] at hl
  simp at hl
  omega

set_option maxRecDepth 100000 in
set_option maxHeartbeats 2000000 in
theorem Awake11_c (w : World) : Calls Try.prog 12 #[] w fun e w' => e = .returned (.bool true) ∧ Ext [] w w' := by
  have HN := Lib.hid (fun W => New_t awk11 awk11_ok W)
  have HF := Lib.hid (fun (W : World) (μ : Mp) (hM : IsMap W μ) (hL : μ.L = awk11.lay) => First_c (w := W) hM awk11 awk11_ok hL)
  have HS := Lib.hid (fun (W : World) g hB => SNewF_c awk11 awk11_ok (w := W) (g := g) hB)
  generalize awk11.lay.all.toNat = na at HF HS
  simp only [Cfg.vals, awk11] at HN
  go_enter Try.func12, Try.ntmps12
  go_wp2_with (first | (go_at_call 14; refine (HN.out _).mono ?_; rintro e w1 ⟨μ, rfl, hL, hM, hE1, hm1, hm2, hm3⟩) | (go_at_call 16; refine (HF.out _ μ hM hL).mono ?_; rintro e w2 ⟨g, rfl, hB, hE2, hg⟩) | (go_at_call 15; refine (HS.out _ _ hB).mono ?_; rintro e w3 ⟨σ, rfl, hσ, hmem, hn0, hE3, hs1, hs2⟩; have hM3 := (hM.ext0 hE2).ext0 hE3; have hE := (hE1.trans hE2 (by simp)).trans hE3 (by simp)))
  have hd : σ.s ≠ μ.m ∧ σ.s ≠ μ.ab ∧ σ.s ≠ μ.rb ∧ σ.sb ≠ μ.m ∧ σ.sb ≠ μ.ab ∧ σ.sb ≠ μ.rb := by
    have l1 := hM.hm.lt
    have l2 := hM.ha.lt
    have l3 := hM.hr.lt
    have l4 := hE2.size
    omega
  have hsz := hE2.size
  have hsz1 := hE1.size
  have HE := Lib.hid (Env.mk0 hM3 hσ hd)
  have HNW := Lib.hid (show (σ.s ∈ ([] : List Nat) ∨ w.heap.size ≤ σ.s) ∧ (σ.sb ∈ ([] : List Nat) ∨ w.heap.size ≤ σ.sb) ∧ w.heap.size ≤ w3.heap.size from by have := hE.size; exact ⟨.inr (by omega), .inr (by omega), by omega⟩)
  have HE0 := Lib.hid hE
  have HMEM := Lib.hid hmem
  have HL := Lib.hid hL
  clear hE1 hE2 hE3 hB hg hm1 hm2 hm3 hs1 hs2 hn0 hM hM3 hσ hE hmem hL hd hsz hsz1 HN HF HS
  go_wp2_with (go_at_call 18; refine (NewPut_c [7, 8] _ (RdU.two _ w3.heap.size [7, 8] 39 (Blk.new _ _ _) (by decide)) (by simp [U64]) (HE.out.map.ext0 ((Ext.refl [] _).alloc _))).mono ?_; rintro e w4 hNP; obtain ⟨x, rfl, hP⟩ := hNP.at (HE.out.ext0 ((Ext.refl [] _).alloc _) (by simp)) (HE0.out.alloc _) HNW.out)
  have hP0 : PAt [] w μ w3.heap.size σ.s σ.sb x (awkA 0) w4 := by rw [HMEM.out] at hP; exact hP
  clear hP hNP
  generalize w3.heap.size = hi at *
  generalize σ.s = s at *
  generalize σ.sb = sb at *
  go_loopg [5] 8 (fun gk v wr => ∃ j : Nat, v = .int .i64 ((j : Int) + 1) ∧ gk + j = 8 ∧ PAt [] w μ hi s sb x (awkA j) wr)
  case atStart => exact ⟨0, rfl, rfl, hP0⟩
  case round =>
    obtain ⟨j, rfl, hgj, hP⟩ := hrel
    clear hP0
    have hj9 : j < 9 := by omega
    have hpc := awkA_pc j hj9
    have hnx : PM.on μ.L (awkA j) = awkA (j + 1) := by rw [HL.out]; rfl
    have hS := hP.step
    rw [hnx, hpc] at hS
    have HSt := Lib.hid hS
    clear hS hpc hnx hP
    by_cases h8 : j = 8
    · subst h8
      simp only [decide_true] at HSt
      go_wp2_with (go_at_call 29; refine HSt.out.mono ?_; rintro e w5 ⟨rfl, hP⟩)
      obtain ⟨⟨σ9, B, E9, H9, hm9, hs9, hsb9, hB9⟩, hE9, hnw9⟩ := hP
      obtain ⟨Bt, Ht, hBt⟩ := H9.trim
      have hp9 : (awkA 9).2.pc = 0 := by simpa using awkA_pc 8 (by omega)
      have HPK := Lib.hid (fun W (hW : Ext [s, sb] w5 W) => (PPacket_c (Ht.ext hW (fun g hg hm => by
        have h1 := hB9 g (hBt g hg).1
        have h2 := E9.s1
        have h3 := E9.s2
        simp only [List.mem_cons, List.not_mem_nil, or_false] at hm
        rcases hm with rfl | rfl <;> omega))))
      have hst := SAll_c σ9 E9.st
      rw [hs9] at hst
      have HAll := Lib.hid hst
      have HHE := Lib.hid (fun W (hW : Ext [] w5 W) (g : Nat) (hg : Blk W g (u64s σ9.mem) 39) => Held_c (E9.map.ext0 hW) σ9.mem _ (RdU.two W g σ9.mem _ hg (by have := E9.st.len; unfold maxLen; omega)) E9.st.ok (by rw [hm9]; decide +kernel) E9.st.len)
      have HHM := Lib.hid (show heldM μ.L σ9.mem = [7, 8] from by rw [HL.out, hm9]; exact awkA_held)
      rw [HHM.out] at HHE
      have HTK := Lib.hid (fun W (hW : Ext [] w5 W) => NewTake_c (E9.map.ext0 hW))
      have HE9 := Lib.hid E9
      have HM9 := Lib.hid hm9
      have HS9 := Lib.hid (And.intro hs9 hsb9)
      have HX9 := Lib.hid hE9
      have HB9 := Lib.hid hB9
      have HBT := Lib.hid hBt
      have HHT := Lib.hid Ht
      have HP9 := Lib.hid hp9
      clear hst H9 Ht hBt hB9 hp9 hm9 hs9 hsb9 hE9 hnw9 E9
      go_wp2_with (first | (go_at_call 22; refine HAll.out.mono ?_; rintro e w6 ⟨g6, rfl, hB6, hE6, hg6⟩) | (go_at_call 21; refine (HHE.out _ hE6 g6 hB6).mono ?_; rintro e w7 ⟨hv, hb, hn, rfl, hS7, hE7, hf7⟩; obtain rfl := hS7.u64; have hE67 := hE6.trans hE7 (by simp)) | (go_at_call 28; refine (HTK.out _ hE67).mono ?_; rintro e w8 hNP; obtain ⟨y, rfl, hPy⟩ := hNP.at (S := [s, sb]) ((HE9.out.ext0 hE67 (by simp)).up (by have := HE9.out.le; have := hE67.size; omega) (Nat.le_refl _)) (Ext.refl _ _) ⟨.inl (by simp [HS9.out.1]), .inl (by simp [HS9.out.2]), Nat.le_refl _⟩))
      have hQ0 : PAt [s, sb] w7 μ w7.heap.size s sb y (awkB 0) w8 := by rw [HS9.out.1, HS9.out.2, HM9.out] at hPy; exact hPy
      clear hPy hNP
      have hfs := hS7
      obtain ⟨va, vc, rfl⟩ := hS7.form
      obtain ⟨g7, c7, e7, hle7, hcl7⟩ := hfs.cell (k := 1) (x := .int .u64 8) (by decide) rfl
      simp only [Value.slice.injEq] at e7
      obtain ⟨rfl, _, rfl⟩ := e7
      have hg7 := World.block_lt_of_cell? w7 _ hcl7
      have HCL7 := Lib.hid hcl7
      have HE67 := Lib.hid hE67
      have HG7 := Lib.hid hg7
      have HF7 := Lib.hid hf7
      have HE6 := Lib.hid hE6
      have hbn : hb = some g7 := by
        cases hb with
        | none => have := hfs.2.1; cases this
        | some gg => obtain ⟨_, _, e, _⟩ := hfs.2; simp only [Value.slice.injEq, Option.some.injEq, Addr.mk.injEq] at e; rw [e.1.1]
      have HBN := Lib.hid hbn
      clear hcl7 hS7 hfs hE6 hE7 hE67 hf7 hg7 hbn hB6 hg6
      simp only [List.length_cons, List.length_nil, Nat.zero_add, Nat.reduceAdd]
      go_loopg [8] 2 (fun gk v wr => ∃ j : Nat, v = .int .i64 ((j : Int) + 1) ∧ gk + j = 2 ∧ PAt [s, sb] w7 μ w7.heap.size s sb y (awkB j) wr)
      case atStart => exact ⟨0, rfl, rfl, hQ0⟩
      case round =>
        obtain ⟨j, rfl, hgj, hP⟩ := hrel
        clear hQ0
        have hj3 : j < 3 := by omega
        have hpc := awkB_pc j hj3
        have hnx : PM.on μ.L (awkB j) = awkB (j + 1) := by rw [HL.out]; rfl
        have hS := hP.step
        rw [hnx, hpc] at hS
        have HSt2 := Lib.hid hS
        clear hS hpc hnx hP
        by_cases h2 : j = 2
        · subst h2
          simp only [decide_true] at HSt2
          go_wp2_with (go_at_call 29; refine HSt2.out.mono ?_; rintro e wz ⟨rfl, hP⟩)
          obtain ⟨⟨σz, Bz, Ez, Hz, hmz, hsz, hsbz, hBz⟩, hEz, hnz⟩ := hP
          have hEx : Ext [s, sb] w5 wz := (HE67.out.mono (S' := [s, sb]) (by simp)).trans hEz (fun g hg => .inl hg)
          have hpx := HPK.out wz hEx
          rw [if_pos HP9.out, awkA_p] at hpx
          have hpy := PPacket_c Hz
          have hpyz : (awkB 3).2.pc = 0 := by simpa using awkB_pc 2 (by omega)
          rw [if_pos hpyz, awkB_p] at hpy
          have hgs : g7 ≠ s ∧ g7 ≠ sb := by
            have h1 := HF7.out g7 HBN.out
            have h2 := HE9.out.st.hs.lt
            have h3 := HE9.out.st.hb.lt
            have h4 := HE6.out.size
            rw [HS9.out.1] at h2
            rw [HS9.out.2] at h3
            omega
          have hcz : wz.cell? ⟨g7, 1, none⟩ = some (.int .u64 8) := (World.cell?_of_block (w := w7) (hEz.same g7 HG7.out (by simp [hgs.1, hgs.2]))).trans HCL7.out
          have HPX := Lib.hid hpx
          have HPY := Lib.hid hpy
          have hEW : Ext [] w wz := HX9.out.trans hEx (fun g hg => by
            have h1 := HNW.out
            simp only [List.mem_cons, List.not_mem_nil, or_false, false_or] at hg h1
            rcases hg with rfl | rfl
            · exact .inr h1.1
            · exact .inr h1.2.1)
          have HEW := Lib.hid hEW
          clear hpx hpy hpyz hEx hEz Hz Ez hmz hsz hsbz hBz hnz hgs hEW
          go_wp2_with (first | (go_at_call_of 30 (Value.pointer (some ⟨x, 0, none⟩)); refine HPX.out.mono ?_; rintro e wq ⟨rfl, rfl⟩) | (go_at_call_of 30 (Value.pointer (some ⟨y, 0, none⟩)); refine HPY.out.mono ?_; rintro e wq ⟨rfl, rfl⟩))
          go_ret
          exact ⟨rfl, HEW.out⟩
        · have hf : decide (j = 2) = false := by simpa using h2
          rw [hf] at HSt2
          clear hf
          have hj8 : (j : Int) < 2 := by omega
          go_wp2_with (go_at_call 29; refine HSt2.out.mono ?_; rintro e w5 ⟨rfl, hP⟩)
          go_roundg (gk - 1)
          case measure => omega
          case rel => exact ⟨j + 1, by simp, by omega, hP⟩
    · have hf : decide (j = 8) = false := by simpa using h8
      rw [hf] at HSt
      clear hf
      have hj8 : (j : Int) < 8 := by omega
      go_wp2_with (go_at_call 29; refine HSt.out.mono ?_; rintro e w5 ⟨rfl, hP⟩)
      go_roundg (gk - 1)
      case measure => omega
      case rel => exact ⟨j + 1, by simp, by omega, hP⟩
end Go.Proofs.Ytcgnficlcgmffaa
