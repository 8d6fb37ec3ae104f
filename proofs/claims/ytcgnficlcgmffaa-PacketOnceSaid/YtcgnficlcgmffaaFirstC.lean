/-
  layout.First: all words as they are at first: its contract.
-/
import Derived.Test.YtcgnficlcgmffaaLayout
import Derived.Test.YtcgnficlcgmffaaStore
import Derived.Test.YtcgnficlcgmffaaFirst
import Derived.Test.YtcgnficlcgmffaaTools
namespace Go.Proofs.Ytcgnficlcgmffaa
open Go.RowKit

theorem MClass_c {w : World} {μ : Mp} (h : IsMap w μ) (hc : μ.L.c.CellsOk) (v : Int) (hv : v ≤ 1000000) : Calls Try.prog 85 #[μ.ptr, .int .i64 v] w fun e w' => e = .returned (.int .i64 (μ.L.c.classOf v)) ∧ Ext [] w w' := by
  have HC := Lib.hid (fun W => SClass_c μ.L.c hc v W hv)
  unfold Mp.ptr
  have c9 := h.hm.cell 9 (v := .int .i64 μ.L.c.c0) rfl
  have c10 := h.hm.cell 10 (v := .int .i64 μ.L.c.c1) rfl
  have c11 := h.hm.cell 11 (v := .int .i64 μ.L.c.c2) rfl
  have c12 := h.hm.cell 12 (v := .int .i64 μ.L.c.c3) rfl
  have c13 := h.hm.cell 13 (v := .int .i64 μ.L.c.c4) rfl
  unfold Cfg.arr at HC
  go_enter Try.func85, Try.ntmps85
  go_wp2_with (go_at_call 78; refine (HC.out _).mono ?_; rintro e w1 ⟨rfl, he⟩)
  go_ret
  exact ⟨rfl, he⟩

section
variable {w : World} {μ : Mp} (h : IsMap w μ) (c : Cfg) (hc : c.Ok) (hL : μ.L = c.lay)
include h hc hL
set_option maxRecDepth 100000 in
set_option maxHeartbeats 1000000 in
theorem First_c : Calls Try.prog 16 #[μ.ptr] w fun e w' => ∃ g, e = .returned (.slice (some ⟨g, 0, none⟩) c.lay.all.toNat c.lay.all.toNat) ∧ Blk w' g (u64s c.first) 39 ∧ Ext [] w w' ∧ w.heap.size ≤ g := by
  obtain ⟨i0, hi, hz, hz1, hz2⟩ := info_parts u64_info
  have HI := Lib.hid hi
  have HZ := Lib.hid hz
  have HZ1 := Lib.hid hz1
  have HZ2 := Lib.hid hz2
  clear hi hz hz1 hz2
  obtain ⟨L, m, ab, rb, sa, sr⟩ := μ
  simp only at hL
  subst hL
  have hlay := c.lay_ok hc
  have hall := hlay.all
  have hmany := hlay.many
  have hmany1 := Cfg.many_pos hc
  have hn := c.nodes_in hc.cells
  have hn1 := hc.some
  have hcl : c.lay.c.CellsOk := hc.cells
  have HCL := Lib.hid hcl
  have hcls : ∀ v, c.lay.c.classOf v = c.classOf v := fun _ => rfl
  have HCLS := Lib.hid hcls
  obtain ⟨n, hn'⟩ : ∃ n : Nat, c.lay.all = n := ⟨c.lay.all.toNat, by omega⟩
  have h5 : 5 < n := by have := Cfg.place_in hc (Cfg.mem_single (k := 5) (c := c) (by omega)); rw [Cfg.place_single 5 (by omega)] at this; omega
  have hlink := Lib.hid (show ∀ k : Nat, (k : Int) + 1 ≤ c.lay.many → 0 ≤ c.lay.link ((k : Int) + 1) ∧ c.lay.link ((k : Int) + 1) < n from fun k hk => by
    have := Cfg.place_in hc (Cfg.mem_link (c := c) (p := (k : Int) + 1) (by omega) hk); rw [Cfg.place_link hc] at this; omega)
  have hnode := Lib.hid (show ∀ (j : Int) v, 0 ≤ j ∧ j ≤ 3 → 1 ≤ v → v ≤ c.nodes → 0 ≤ c.lay.node v j ∧ c.lay.node v j < n from fun j v hj h1 h2 => by
    have := Cfg.place_in hc (Cfg.mem_node (c := c) (k := 14 + j) (v := v) (by omega) h1 h2); rw [Cfg.place_word hc j v hj] at this; omega)
  have hhead := Lib.hid (show ∀ k, 0 ≤ k ∧ k < 5 → 0 ≤ c.lay.headAt k ∧ c.lay.headAt k < n from fun k hk => by
    have := Cfg.place_in hc (Cfg.mem_head (c := c) (k := k) hk); rw [Cfg.place_head hc] at this; omega)
  have hclin := Lib.hid (fun v h1 h2 => Cfg.classOf_in (c := c) hc.cells (v := v) h1 h2)
  have hf0 := Lib.hid (show c.first0 = pt (List.replicate n 0) 5 1 from by unfold Cfg.first0; rw [hn', Int.toNat_natCast])
  have hf1 := Lib.hid (show c.first1 = c.links (c.lay.many.toNat - 1) c.first0 from rfl)
  have hf2 := Lib.hid (show c.first2 = pt (pt c.first1 (c.lay.node c.nodes 1) 1) (c.lay.node c.nodes 0) (c.lay.roomOf c.nodes) from rfl)
  have hf3 := Lib.hid (show c.first = c.frees (c.nodes.toNat - 1) c.first2 from rfl)
  have hl0 : (c.first0).length = n := by have := Cfg.first0_len hc; omega
  have HL0 := Lib.hid hl0
  have HL1 := Lib.hid (show (c.first1).length = n from by have := Cfg.first1_len hc; omega)
  have HL2 := Lib.hid (show (c.first2).length = n from by have := Cfg.first2_len hc; omega)
  clear hl0 hcls hcl
  have hroom := Cfg.roomOf_eq hc hn1 (Int.le_refl _)
  obtain ⟨_, hr1, hr2⟩ := hroom
  have hc8 := h.hm.cell 8 (v := .int .i64 c.lay.all) rfl
  rw [hn'] at hc8 hall ⊢
  rw [Int.toNat_natCast]
  unfold Mp.ptr
  have H := Lib.hid h
  clear h hn'
  go_enter Try.func16, Try.ntmps16
  go_wp2_with (first | (at_make; refine wpList_make_blk _ rfl _ _ 25 rfl 39 i0 (.int .u64 0) u64_slice HI.out HZ.out HZ1.out rfl .i64 .i64 n rfl rfl (by rw [HZ2.out]; omega) (by omega) ?_; intro w1 g hB1 hE1 hg1; rw [u64s_replicate] at hB1; have hc1 := hB1.cells; have hf1 := hB1.free) | (go_at_call 80; refine (Pair_c _ _ _ ⟨by omega, by omega⟩ ⟨by omega, by omega⟩).mono ?_; rintro e w2 ⟨rfl, rfl⟩))
  have hB2 : Blk (w1.setCell ⟨g, 5, none⟩ (.int .u64 (wPair 0 1))) g (u64s c.first0) 39 := by
    rw [hf0.out]
    exact hB1.word (i := 5) (v := wPair 0 1) (by omega) (by simp; omega)
  have hE2 : Ext [] w (w1.setCell ⟨g, 5, none⟩ (.int .u64 (wPair 0 1))) := hE1.setCell _ _ (.inr hg1)
  clear hc1 hf1 hB1
  go_loopg [4] (c.lay.many.toNat - 1) (fun gk v wr => ∃ k : Nat, v = .int .i64 ((k : Int) + 1) ∧ gk + k = c.lay.many.toNat - 1 ∧ Blk wr g (u64s (c.links k c.first0)) 39 ∧ Ext [] w wr)
  case atStart => exact ⟨0, by simp, by omega, hB2, hE2⟩
  case round =>
    obtain ⟨k, rfl, hgk, hB, hE⟩ := hrel
    clear hB2 hE2
    have hM := H.out.ext0 hE
    have hc6 := hM.hm.cell 6 (v := .int .i64 c.lay.many) rfl
    by_cases hk : (k : Int) + 1 < c.lay.many
    · obtain ⟨q0, q1⟩ := hlink.out k (by omega)
      have hL := Lib.hid (Link_c hM ((k : Int) + 1))
      have hll : (c.links k c.first0).length = n := by rw [Cfg.links_len]; exact HL0.out
      have hstep : c.links (k + 1) c.first0 = pt (c.links k c.first0) (c.lay.link ((k : Int) + 1)) ((k : Int) + 2) := rfl
      have HST := Lib.hid hstep
      clear hstep
      simp only at hL
      generalize c.lay.link ((k : Int) + 1) = q at q0 q1 hL HST
      generalize c.links k c.first0 = l at hB hll HST
      have hc1 := u64s_ld (l := l) q0 (by omega)
      rw [← hB.cells] at hc1
      have hf1 := hB.free
      have HLL := Lib.hid hll
      clear hll
      go_wp2_with (go_at_call 81; refine hL.out.mono ?_; rintro e w2 ⟨rfl, rfl⟩)
      go_roundg (gk - 1)
      case measure => omega
      case rel =>
        refine ⟨k + 1, by simp, by omega, ?_, hE.setCell _ _ (.inr hg1)⟩
        rw [HST.out, show (k : Int) + 2 = k + 1 + 1 from by omega]
        exact hB.word q0 (by rw [HLL.out]; exact q1)
    · have hkm : k = c.lay.many.toNat - 1 := by omega
      subst hkm
      rw [← hf1.out] at hB
      obtain ⟨s0, s1⟩ := hnode.out 1 c.nodes (by omega) hn1 (Int.le_refl _)
      obtain ⟨t0, t1⟩ := hnode.out 0 c.nodes (by omega) hn1 (Int.le_refl _)
      have hS := Lib.hid (State_c hM c.nodes)
      have hT := Lib.hid (Header_c hM c.nodes)
      have hR := Lib.hid (Room_c hM c.nodes)
      have hC := Lib.hid (Common_c hM)
      simp only [Lay.state, Lay.header] at hS hT
      simp only at hR hC
      rw [Cfg.lay_nodes] at hC
      have hc1 := u64s_ld (l := c.first1) s0 (by rw [HL1.out]; exact s1)
      have hc2 := u64s_ld (l := c.first1) t0 (by rw [HL1.out]; exact t1)
      rw [← hB.cells] at hc1 hc2
      have hf1' := hB.free
      have HF2 := Lib.hid hf2.out
      clear hf2 hf1 hf0
      have hst : c.lay.node c.nodes 1 ≠ c.lay.node c.nodes 0 := by
        have e1 := Cfg.place_word hc 1 c.nodes (by omega)
        have e0 := Cfg.place_word hc 0 c.nodes (by omega)
        intro e
        rw [← e1, ← e0] at e
        have := Cfg.place_inj (Cfg.mem_node (c := c) (k := 14 + 1) (by omega) hn1 (Int.le_refl _)) e
        simp at this
      have hst' : (c.lay.node c.nodes 1).toNat ≠ (c.lay.node c.nodes 0).toNat := by omega
      generalize c.lay.node c.nodes 1 = q at s0 s1 hS HF2 hc1 hst hst'
      generalize c.lay.node c.nodes 0 = p at t0 t1 hT HF2 hc2 hst hst'
      generalize c.lay.roomOf c.nodes = r at hr1 hr2 hR HF2
      go_wp2_with (first | (go_at_call 73; refine hC.out.mono ?_; rintro e w2 ⟨rfl, rfl⟩) | (go_at_call 82; refine hS.out.mono ?_; rintro e w2 ⟨rfl, rfl⟩) | (go_at_call 83; refine hT.out.mono ?_; rintro e w2 ⟨rfl, rfl⟩) | (go_at_call 72; refine hR.out.mono ?_; rintro e w2 ⟨rfl, rfl⟩))
      have hB2 : Blk ((wr.setCell ⟨g, q.toNat, none⟩ (.int .u64 1)).setCell ⟨g, p.toNat, none⟩ (.int .u64 r)) g (u64s c.first2) 39 := by
        rw [HF2.out]
        exact (hB.word s0 (by rw [HL1.out]; exact s1)).word t0 (by rw [pt_length, HL1.out]; exact t1)
      have hE2 : Ext [] w ((wr.setCell ⟨g, q.toNat, none⟩ (.int .u64 1)).setCell ⟨g, p.toNat, none⟩ (.int .u64 r)) := (hE.setCell _ _ (.inr hg1)).setCell _ _ (.inr hg1)
      clear hc1 hc2 hf1' hB hE hc6 hM hc8
      go_loopg [6] (c.nodes.toNat - 1) (fun gk v wr => ∃ (u : Nat) (l : List Int), v = .int .i64 (u : Int) ∧ gk = u ∧ u < c.nodes.toNat ∧ l.length = n ∧ c.frees u l = c.first ∧ Blk wr g (u64s l) 39 ∧ Ext [] w wr)
      case atStart => exact ⟨c.nodes.toNat - 1, c.first2, by simp; omega, rfl, by omega, HL2.out, hf3.out.symm, hB2, hE2⟩
      case round =>
        obtain ⟨u, l, rfl, hgu, hun, hll, hfr, hB, hE⟩ := hrel
        clear hB2 hE2
        have HFR := Lib.hid hfr
        have HLL := Lib.hid hll
        clear hfr hll
        have hM := H.out.ext0 hE
        by_cases hu : 1 ≤ u
        · obtain ⟨u, rfl⟩ : ∃ k, u = k + 1 := ⟨u - 1, by omega⟩
          have hu1 : (1 : Int) ≤ ((u + 1 : Nat) : Int) := by omega
          obtain ⟨k0, k1⟩ := hclin.out (((u + 1 : Nat)) : Int) (by omega) (by omega)
          obtain ⟨s0, s1⟩ := hnode.out 3 (((u + 1 : Nat)) : Int) (by omega) (by omega) (by omega)
          obtain ⟨t0, t1⟩ := hhead.out (c.classOf (((u + 1 : Nat)) : Int)) ⟨k0, k1⟩
          have hCl := Lib.hid (fun W (hW : IsMap W ⟨c.lay, m, ab, rb, sa, sr⟩) => MClass_c hW HCL.out (((u + 1 : Nat)) : Int) (by omega))
          have hNx := Lib.hid (fun W (hW : IsMap W ⟨c.lay, m, ab, rb, sa, sr⟩) => Next_c hW (((u + 1 : Nat)) : Int))
          have hHd := Lib.hid (fun W (hW : IsMap W ⟨c.lay, m, ab, rb, sa, sr⟩) => Head_c hW (c.classOf (((u + 1 : Nat)) : Int)))
          simp only [HCLS.out, Lay.next] at hCl hNx hHd
          have hne : c.lay.headAt (c.classOf (((u + 1 : Nat)) : Int)) ≠ c.lay.node (((u + 1 : Nat)) : Int) 3 := by
            rw [← Cfg.place_head hc, ← Cfg.place_word hc 3 _ (by omega)]
            intro e
            have := Cfg.place_inj (Cfg.mem_head (c := c) ⟨k0, k1⟩) e
            simp at this
          have hstep : c.frees (u + 1) l = c.frees u (pt (pt l (c.lay.node (((u + 1 : Nat)) : Int) 3) (ld l (c.lay.headAt (c.classOf (((u + 1 : Nat)) : Int))))) (c.lay.headAt (c.classOf (((u + 1 : Nat)) : Int))) (((u + 1 : Nat)) : Int)) := rfl
          have HST := Lib.hid hstep
          clear hstep
          generalize c.lay.node (((u + 1 : Nat)) : Int) 3 = q at s0 s1 hNx hne HST
          generalize hcl : c.classOf (((u + 1 : Nat)) : Int) = cl at k0 k1 hCl hHd t0 t1 hne HST
          generalize c.lay.headAt cl = p at t0 t1 hHd hne HST
          clear hcl
          have hpq : p.toNat ≠ q.toNat := by omega
          have hv : wPair 0 (((u + 1 : Nat)) : Int) = (((u + 1 : Nat)) : Int) := by unfold wPair; omega
          have HV := Lib.hid hv
          clear hv
          have hu60 : (((u + 1 : Nat)) : Int) ≤ 60 := by omega
          generalize hue : (((u + 1 : Nat)) : Int) = ui at *
          have HUE := Lib.hid hue
          clear hue
          have hEc := fun W (hW : Ext [] wr W) => (hB.ext hW (by simp)).cells
          have hFc := fun W (hW : Ext [] wr W) => (hB.ext hW (by simp)).free
          have HEC := Lib.hid hEc
          have HFC := Lib.hid hFc
          clear hEc hFc
          go_wp2_with (first | (go_at_call 85; refine (hCl.out _ hM).mono ?_; rintro e w2 ⟨rfl, hE3⟩; have hB3 := hB.ext hE3 (by simp); have hM3 := hM.ext0 hE3; have hE4 := hE.trans hE3 (by simp)) | (go_at_call 84; refine (hHd.out _ hM3).mono ?_; rintro e w3 ⟨rfl, rfl⟩))
          have hc1 := u64s_ld (l := l) s0 (by rw [HLL.out]; exact s1)
          have hc2 := u64s_ld (l := l) t0 (by rw [HLL.out]; exact t1)
          rw [← hB3.cells] at hc1 hc2
          have hf1' := hB3.free
          go_wp2_with fail
          refine wp_region_rg [0, 0, 0, 0, 0, 0, 0, 0, 0, 2] (by kernel_rfl) (by kernel_rfl) ?_
          repeat (first | (with_reducible refine wpH_tail ?_) | ((with_reducible refine wpH_float (fun K hK => ?_)); go_simp; refine hK _ ?_; clear hK K) | ((with_reducible refine wpH_near (fun K hK => ?_)); go_simp; first | (refine hK _ ?_; clear hK K) | (apply Exists.intro; refine ⟨fun _ => ?_, hK _ ?_⟩; (exact Calls.quiet_of_same ((hNx.out _ (hM3.drewN _)).mono fun e w' h => ⟨h.1, h.2.symm⟩)); clear hK K)))
          refine wpH_nil ?_
          rintro _ ⟨nq, rfl⟩
          simp only [rgTailOps, Nat.reduceEqDiff, if_true, if_false]
          go_wp2_with (first | (with_reducible refine NoPanic.normal ?_) | (go_at_call 80; refine (Pair_c _ _ _ ⟨by omega, by omega⟩ ⟨by omega, by omega⟩).mono ?_; rintro e w2 ⟨rfl, rfl⟩))
          go_roundg (gk - 1)
          case measure => omega
          case rel =>
            have hue := HUE.out
            refine ⟨u, _, ?_, by omega, by omega, ?_, HST.out.symm.trans HFR.out, ?_, ((hE4.drewN nq).setCell _ _ (.inr hg1)).setCell _ _ (.inr hg1)⟩
            · rw [← hue]; simp
            · simp only [pt_length]; exact HLL.out
            · have hx := ((hB3.drewN nq).word (v := ld l p) s0 (by rw [HLL.out]; exact s1)).word (v := wPair 0 ui) t0 (by rw [pt_length, HLL.out]; exact t1)
              rw [HV.out] at hx ⊢
              exact hx
        · go_wp2_with fail
          go_ret
          have hu0 : u = 0 := by omega
          subst hu0
          have e := HFR.out
          refine ⟨g, rfl, ?_, hE, hg1⟩
          have e2 : l = c.first := e
          rw [← e2]
          exact hB
end
end Go.Proofs.Ytcgnficlcgmffaa
