/-
  packet.Held: all tasks of packets in the pool.
-/
import Derived.Deep.LoopGhost
import Derived.Test.YtcgnficlcgmffaaWalk
import Derived.Test.YtcgnficlcgmffaaPacket
namespace Go.Proofs.Ytcgnficlcgmffaa
open Go.RowKit

structure HeldR (w : World) (σ0 : St) (bp : Option Nat) (pv : Value) (ps : List Int) (out : List Int) (v : Value) (W : World) : Prop where
  ex : ∃ bo nn, IsSt W { σ0 with n := nn } ∧ Sl W 39 1 bo v out.length (u64s out) ∧ ∀ g, bo = some g → g ≠ σ0.s ∧ g ≠ σ0.sb ∧ bp ≠ some g ∧ w.heap.size ≤ g
  ps : Sl W 3 1 bp pv ps.length (i64s ps)
  ext : Ext [] w W
theorem HeldR.step {w W W' : World} {σ : St} {bp : Option Nat} {pv : Value} {ps out : List Int} {v : Value} {n' : Int} (hR : HeldR w σ bp pv ps out v W) (hsw : w.heap.size ≤ σ.s ∧ w.heap.size ≤ σ.sb) (hsb : ∀ g, bp = some g → g ≠ σ.s ∧ g ≠ σ.sb)
    (he : Ext [σ.s, σ.sb] W W') (hs : IsSt W' { σ with n := n' }) : HeldR w σ bp pv ps out v W' := by
  obtain ⟨⟨bo, nn, h1, h2, h3⟩, h4, h5⟩ := hR
  refine ⟨⟨bo, n', hs, h2.ext he (fun g hg hm => ?_), h3⟩, h4.ext he (fun g hg hm => ?_), h5.trans he (fun x hx => ?_)⟩
  · have := h3 g hg
    simp only [List.mem_cons, List.not_mem_nil, or_false] at hm
    rcases hm with rfl | rfl
    · exact this.1 rfl
    · exact this.2.1 rfl
  · have := hsb g hg
    simp only [List.mem_cons, List.not_mem_nil, or_false] at hm
    rcases hm with rfl | rfl
    · exact this.1 rfl
    · exact this.2 rfl
  · simp only [List.mem_cons, List.not_mem_nil, or_false] at hx
    rcases hx with rfl | rfl
    · exact .inr hsw.1
    · exact .inr hsw.2
theorem Sl.i64 {w : World} {b : Option Nat} {v : Value} {n : Nat} {xs : List Int} (h : Sl w 3 1 b v n (i64s xs)) : n = xs.length := by have := h.1; simpa using this.symm
theorem Sl.u64 {w : World} {b : Option Nat} {v : Value} {n : Nat} {xs : List Int} (h : Sl w 39 1 b v n (u64s xs)) : n = xs.length := by have := h.1; simpa using this.symm
/-- An owned slice's cell. -/
theorem Sl.cell {w : World} {E : TypeId} {b : Option Nat} {v : Value} {n : Nat} {xs : List Value} (h : Sl w E 1 b v n xs) {k : Nat} (hk : k < n) {x : Value} (hx : xs[k]? = some x) : ∃ g cap, v = .slice (some ⟨g, 0, none⟩) n cap ∧ n ≤ cap ∧ w.cell? ⟨g, k, none⟩ = some x := by
  obtain ⟨h1, h2⟩ := h
  cases b with
  | none => omega
  | some g =>
    obtain ⟨cap, spare, rfl, hB, _, hc, _⟩ := h2
    refine ⟨g, cap, rfl, hc, ?_⟩
    rw [hB.cells, List.getElem?_append_left (by omega)]
    exact hx
section
variable {w : World} {μ : Mp} (hμ : IsMap w μ) (l : List Int) (lv : Value) (hl : RdU w lv l) (hu : Wds l) (hne : l ≠ []) (hlen : l.length ≤ 1000000)
include hμ hl hu hne hlen
set_option maxRecDepth 100000 in
set_option maxHeartbeats 2000000 in
theorem Held_c : Calls Try.prog 21 #[μ.ptr, lv] w fun e w' =>
    ∃ v bo n, e = .returned v ∧ Sl w' 39 1 bo v n (u64s (heldM μ.L l)) ∧ Ext [] w w' ∧ ∀ g, bo = some g → w.heap.size ≤ g := by
  obtain ⟨i0, hi, hz, hz1, hz2⟩ := info_parts u64_info
  have HI := Lib.hid hi
  have HZ := Lib.hid hz
  have HZ1 := Lib.hid hz1
  have HZ2 := Lib.hid hz2
  clear hi hz hz1 hz2
  have hmany := hμ.ok.many
  have HN := Lib.hid (fun W (hW : RdU W lv l) => SNew_c (w := W) l hne hlen hu lv hW)
  have HWK := Lib.hid (fun W (hW : IsMap W μ) (hR : RdU W lv l) => Walk_c (w := W) hW true l lv hR hu 4 μ.L.many (by omega))
  simp only [lk, atv] at HWK
  have hpl := walkM_len μ.L.link l μ.L.many.toNat 4
  have hpu := walkM_u32 μ.L.link l μ.L.many.toNat 4
  obtain ⟨ps, hps⟩ : ∃ ps, ps = walkM μ.L.link l μ.L.many.toNat 4 := ⟨_, rfl⟩
  have hfin : heldM μ.L l = ps.flatMap (tasksOf μ.L l) := by rw [hps]; rfl
  rw [← hps] at hpl hpu HWK
  rw [hfin]
  obtain ⟨la, lc, rfl, _, hl63, _⟩ := hl.cell
  have HL := Lib.hid hl
  have HM := Lib.hid hμ
  have HU := Lib.hid hu
  have HPU := Lib.hid hpu
  clear hl hμ hu hps hfin hne hpu
  unfold Mp.ptr at HWK ⊢
  have hps10 : ps.length ≤ 10000 := by omega
  go_enter Try.func21, Try.ntmps21
  go_wp2_with (first | (go_at_call 15; refine (HN.out _ HL.out).mono ?_; rintro e w1 ⟨σ, rfl, hσ, hmem, hn0, hE1, hs1, hs2⟩; have hM1 := HM.out.ext0 hE1; have hR1 := HL.out.ext hE1) | (go_at_call 92; refine (Pool_c hM1).mono ?_; rintro e w2 ⟨rfl, rfl⟩) | (go_at_call 27; refine (Packets_c hM1).mono ?_; rintro e w2 ⟨rfl, rfl⟩) | (go_at_call 91; refine (HWK.out _ hM1 hR1).mono ?_; rintro e w2 ⟨pv, bp, np, rfl, hP, hE2, hbp⟩; obtain rfl := hP.i64; obtain ⟨pa, pc, rfl⟩ := hP.form; have hst2 := hσ.ext hE2 (by simp) (by simp); have hE3 := hE1.trans hE2 (by simp)))
  have HSB := Lib.hid (show ∀ g, bp = some g → g ≠ σ.s ∧ g ≠ σ.sb from fun g hg => by have := hbp g hg; have := hσ.hs.lt; have := hσ.hb.lt; omega)
  have hsw : w.heap.size ≤ σ.s ∧ w.heap.size ≤ σ.sb := ⟨hs1, hs2⟩
  have HSW := Lib.hid hsw
  have HMEM := Lib.hid hmem
  have hbw : ∀ g, bp = some g → w.heap.size ≤ g := fun g hg => by have := hbp g hg; have := hE1.size; omega
  have hR0 : HeldR w σ bp (.slice pa ps.length pc) ps [] (.slice none 0 0) w2 := ⟨⟨none, σ.n, hst2, Sl.nil _ _ _, by simp⟩, hP, hE3⟩
  clear hP hst2 hE3 hσ hM1 hR1 hE1 hE2 hbp hmem hn0 hs1 hs2 hsw HN HWK
  go_loopg [22, 6] ps.length (fun gk i v wr => ∃ (k : Nat) (out : List Int) (va : Option Addr) (vc : Nat), i = .int .i64 (k : Int) ∧ v = .slice va out.length vc ∧ gk + k = ps.length ∧ k ≤ ps.length ∧ out = (ps.take k).flatMap (tasksOf μ.L l) ∧ out.length ≤ 4 * k ∧ HeldR w σ bp (.slice pa ps.length pc) ps out (.slice va out.length vc) wr)
  case atStart => exact ⟨0, [], none, 0, rfl, rfl, by omega, by omega, by simp, by simp, hR0⟩
  case round =>
    obtain ⟨k, out, va, vc, rfl, rfl, hgk, hkl, hout, hol, hR⟩ := hrel
    have HOUT := Lib.hid hout
    clear hR0 hout
    obtain ⟨wo, rfl⟩ : ∃ wo : World, wo = wr := ⟨_, rfl⟩
    obtain ⟨gko, rfl⟩ : ∃ g, g = gk := ⟨_, rfl⟩
    by_cases hk : k < ps.length
    · have hk' : (k : Int) < (ps.length : Int) := by omega
      have hR' := hR
      obtain ⟨⟨bo, nn, hst, hS, hfr⟩, hP, hE⟩ := hR'
      have hp1 := HPU.out _ (getD_mem ps k hk)
      obtain ⟨p0, p1⟩ := hp1
      have hpg : (i64s ps)[k]? = some (.int .i64 (ps.getD k 0)) := i64s_get _ _ hk
      have htk : (ps.take (k + 1)).flatMap (tasksOf μ.L l) = (ps.take k).flatMap (tasksOf μ.L l) ++ tasksOf μ.L l (ps.getD k 0) := by
        rw [List.take_succ_eq_append_getElem hk, List.flatMap_append]
        simp only [List.flatMap_cons, List.flatMap_nil, List.append_nil]
        rw [show ps[k] = ps.getD k 0 from by simp [hk]]
      have HTK := Lib.hid htk
      clear htk
      generalize ps.getD k 0 = p at p0 p1 hpg HTK
      obtain ⟨pg, pcap, e, hpc, hpcell⟩ := hP.cell hk hpg
      simp only [Value.slice.injEq] at e
      obtain ⟨rfl, _, rfl⟩ := e
      have hM := HM.out.ext0 hE
      clear hpg hP
      have hload : ({ σ with n := nn } : St).load (μ.L.manyAt p) = ld l (μ.L.manyAt p) := by unfold St.load; rw [HMEM.out]
      have HLD := Lib.hid hload
      clear hload
      obtain ⟨u0, u1⟩ := HU.out.ld (μ.L.manyAt p)
      obtain ⟨m, hm⟩ : ∃ m : Nat, (m : Int) = min (ld l (μ.L.manyAt p)) 4 := ⟨(min (ld l (μ.L.manyAt p)) 4).toNat, by omega⟩
      have hmi : (if (4 : Int) < ld l (μ.L.manyAt p) then (4 : Int) else ld l (μ.L.manyAt p)) = (m : Int) := by rw [hm]; split <;> omega
      have hm4 : (m : Int) ≤ 4 := by omega
      have htof : tasksOf μ.L l p = (List.range m).map fun (j : Nat) => ld l (μ.L.task p j) := by
        unfold tasksOf
        rw [← hm]
        simp
      have HTO := Lib.hid htof
      clear htof hm
      have HMany := Lib.hid (Many_c hM p)
      generalize ld l (μ.L.manyAt p) = q at u0 u1 hmi HLD
      have HFR := Lib.hid hfr
      clear hfr
      go_wp2_with (first | (go_at_call 33; refine HMany.out.mono ?_; rintro e w3 ⟨rfl, rfl⟩) | (go_at_call 31; refine (Load_c { σ with n := nn } _ _ hst).mono ?_; rintro e w4 ⟨rfl, hs1, he1⟩; rw [HLD.out]))
      have hR1 := HeldR.step hR HSW.out HSB.out he1 hs1
      clear hR hst hS hE hM hs1 he1 HMany hpcell
      go_loopg [34, 6] m (fun gj i v wr => ∃ (j : Nat) (o2 : List Int) (va : Option Addr) (vc : Nat), i = .int .i64 (j : Int) ∧ v = .slice va (out ++ o2).length vc ∧ gj + j = m ∧ j ≤ m ∧ o2 = (List.range j).map (fun (j : Nat) => ld l (μ.L.task p j)) ∧ HeldR w σ bp (.slice (some ⟨pg, 0, none⟩) ps.length pc) ps (out ++ o2) (.slice va (out ++ o2).length vc) wr)
      case atStart =>
        exact ⟨0, [], va, vc, rfl, by rw [List.append_nil], by omega, by omega, by simp, by rw [List.append_nil]; exact hR1⟩
      case round =>
        obtain ⟨j, o2, va2, vc2, rfl, rfl, hgj, hjm, ho2, hR2⟩ := hrel
        have HO2 := Lib.hid ho2
        have ho2l : o2.length = j := by rw [ho2]; simp
        clear hR1 ho2
        obtain ⟨w2, rfl⟩ : ∃ w2 : World, w2 = wr := ⟨_, rfl⟩
        by_cases hj : j < m
        · have hj' : (j : Int) < (m : Int) := by omega
          obtain ⟨⟨bo2, nn2, hst, hS, hfr⟩, hP, hE⟩ := hR2
          have hM := HM.out.ext0 hE
          have hT := Lib.hid (Task_c hM p j)
          have hload : ({ σ with n := nn2 } : St).load (μ.L.task p j) = ld l (μ.L.task p j) := by unfold St.load; rw [HMEM.out]
          have HLD := Lib.hid hload
          have hst1 : (List.range (j + 1)).map (fun (j : Nat) => ld l (μ.L.task p j)) = o2 ++ [ld l (μ.L.task p j)] := by rw [List.range_succ, List.map_append, ← HO2.out]; rfl
          have HST := Lib.hid hst1
          clear hload hst1
          obtain ⟨u0, u1⟩ := HU.out.ld (μ.L.task p j)
          generalize ld l (μ.L.task p j) = q at u0 u1 HLD HST
          generalize μ.L.task p j = ta at hT HLD
          have hlen2 : (out ++ o2).length = out.length + j := by rw [List.length_append, ho2l]
          have hsmall : (out ++ o2).length ≤ 50000 := by omega
          generalize hoo : out ++ o2 = oo at hS hsmall
          have HOO := Lib.hid hoo
          have HFR2 := Lib.hid hfr
          have HP := Lib.hid hP
          have HE := Lib.hid hE
          clear hoo hfr hlen2 hP hE
          go_wp2_with (first | (go_at_call 32; refine hT.out.mono ?_; rintro e w3 ⟨rfl, rfl⟩) | (go_at_call 31; refine (Load_c { σ with n := nn2 } _ _ hst).mono ?_; rintro e w4 ⟨rfl, hs1, he1⟩; rw [HLD.out]; have hS4 := hS.ext he1 (fun g hg hm => by { have := HFR2.out g hg; simp only [List.mem_cons, List.not_mem_nil, or_false] at hm; rcases hm with h | h <;> omega })) | (at_builtin; refine wpList_append_sl _ rfl (.tmp 37) (.tmp 44) 25 25 rfl 39 i0 (.int .u64 0) 1 8 u64_slice HI.out HZ.out HZ1.out HZ2.out rfl (by decide) (hS4.ext ((Ext.refl [] _).alloc _) (by simp)) 1 [.int .u64 q] ((Blk.new _ _ _).src1 u64_slice rfl) (by unfold maxLen; omega) (by omega) ?_; intro v' b' w5 hsl5 he5 hb5; obtain ⟨va5, vc5, rfl⟩ := hsl5.form; have HB5 := Lib.hid hb5; clear hb5))
          go_roundg (gk - 1)
          case measure => omega
          case rel =>
            have hE1 := HE.out.trans he1 (S := []) (fun x hx => by
              have := HSW.out
              simp only [List.mem_cons, List.not_mem_nil, or_false] at hx
              rcases hx with rfl | rfl
              · exact .inr this.1
              · exact .inr this.2)
            have hfr5 : ∀ g, b' = some g → g ≠ σ.s ∧ g ≠ σ.sb ∧ bp ≠ some g ∧ w.heap.size ≤ g := by
              intro g hg
              rcases HB5.out with h1 | h1
              · exact HFR2.out g (h1 ▸ hg)
              · rw [h1] at hg
                have l1 : σ.s < _ := hs1.hs.lt
                have l2 : σ.sb < _ := hs1.hb.lt
                have l3 := hE1.size
                simp only [Option.some.injEq, World.size_alloc] at hg
                refine ⟨by omega, by omega, fun e => ?_, by omega⟩
                have l4 := HP.out.lt e
                have l5 := he1.size
                omega
            have hxs : σ.s ∉ bo2.toList := nmem_toList fun g hg => (HFR2.out g hg).1
            have hxb : σ.sb ∉ bo2.toList := nmem_toList fun g hg => (HFR2.out g hg).2.1
            refine ⟨j + 1, o2 ++ [q], va5, vc5, by simp, ?_, by omega, by omega, HST.out.symm, ⟨⟨b', _, (hs1.alloc _).ext he5 hxs hxb, ?_, hfr5⟩, ?_, ?_⟩⟩
            · rw [← List.append_assoc, HOO.out]; simp
            · rw [← List.append_assoc, HOO.out]
              simpa [u64s] using hsl5
            · refine ((HP.out.ext he1 (fun g hg hm => ?_)).ext ((Ext.refl [] _).alloc _) (by simp)).ext he5 (fun g hg hm => ?_)
              · have := HSB.out g hg
                simp only [List.mem_cons, List.not_mem_nil, or_false] at hm
                rcases hm with h | h <;> omega
              · cases bo2 with
                | none => simp at hm
                | some g2 =>
                  simp at hm
                  exact (HFR2.out g2 rfl).2.2.1 (hm ▸ hg)
            · exact (hE1.alloc _).ofOpt he5 fun g hg => (HFR2.out g hg).2.2.2
        · go_wp2_with fail
          go_roundg (gko - 1)
          case measure => omega
          case rel =>
            have hjm' : j = m := by omega
            have h2 := HO2.out
            rw [hjm', ← HTO.out] at h2
            refine ⟨k + 1, out ++ o2, va2, vc2, by simp, rfl, by omega, by omega, ?_, ?_, hR2⟩
            · rw [HTK.out, ← HOUT.out, h2]
            · rw [List.length_append]; omega
    · go_wp2_with fail
      go_ret
      obtain ⟨⟨bo, nn, hst, hS, hfr⟩, hP, hE⟩ := hR
      have hkk : k = ps.length := by omega
      have ho := HOUT.out
      rw [hkk, List.take_length] at ho
      rw [← ho]
      exact ⟨_, bo, _, rfl, hS, hE, fun g hg => (hfr g hg).2.2.2⟩
end
end Go.Proofs.Ytcgnficlcgmffaa
