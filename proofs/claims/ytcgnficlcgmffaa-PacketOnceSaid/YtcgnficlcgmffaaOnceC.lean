/-
  Law PacketOnce: the walk.
-/
import Derived.Deep.DeepCutAuto
import Derived.Test.YtcgnficlcgmffaaOnceX
import Derived.Test.YtcgnficlcgmffaaRd
namespace Go.Proofs.Ytcgnficlcgmffaa
open Go.RowKit

theorem pm_ptr_slice : Try.prog.underlying 54 = some (.slice 37) := by kernel_rfl
theorem pm_ptr_info : (Try.prog.info? 37).map (fun i => (i.zero, i.size, i.bytes)) = some (some (.pointer none), 1, 8) := by kernel_rfl
/-- Behind what is begun: actor k has a machine. -/
def OnceMid (w : World) (μ : Mp) (b : OB) (L : Lay) (k : Nat) (v : Int) (Sn : OS) (s15 s16 : Value) (wx : World) : Prop :=
  ∃ (S : OS) (K : Nat → Int) (a : OA), s15 = .int .i64 (S.put : Int) ∧ s16 = .int .i64 (S.n : Int) ∧ S.w k = some a ∧ OW w μ b S K wx ∧ OS.Inv L S v ∧ Sn = OS.act L k S a
theorem upd_upd {α : Type} (f : Nat → α) (k : Nat) (u v : α) : upd (upd f k u) k v = upd f k v := by
  funext j; unfold upd; split <;> rfl
set_option maxRecDepth 100000 in
set_option maxHeartbeats 0 in
theorem Once_c (w : World) (c : Cfg) (av pv : Value) (acts picks : List Int) (ha : RdB w av acts) (hp : RdB w pv picks) : Calls Try.prog 4 #[.agg c.vals.toArray, av, pv] w fun e w' => e = .returned (.bool true) ∧ Ext [] w w' := by
  obtain ⟨aa, ac, rfl, ha1, ha2, ha3, ha4⟩ := id ha
  obtain ⟨pa, pc, rfl, hp1, hp2, hp3, hp4⟩ := id hp
  unfold maxLen at ha2 hp2
  obtain ⟨i0, hi, hz, hz1, hz2⟩ := info_parts i64_info
  obtain ⟨j0, ji, jz, jz1, jz2⟩ := info_parts pm_ptr_info
  have HI := Lib.hid hi
  have HZ := Lib.hid hz
  have HZ1 := Lib.hid hz1
  have HZ2 := Lib.hid hz2
  have JI := Lib.hid ji
  have JZ := Lib.hid jz
  have JZ1 := Lib.hid jz1
  have JZ2 := Lib.hid jz2
  clear hi hz hz1 hz2 ji jz jz1 jz2
  by_cases hsm : c.Small
  · have hok := hsm.2.2
    have HA := Lib.hid (fun W => Awake11_c W)
    have HSM := Lib.hid (fun W => Small11_yes c hsm W)
    have HN := Lib.hid (fun W => New_t c hok W)
    have HF := Lib.hid (fun (W : World) (μ : Mp) (hM : IsMap W μ) (hL : μ.L = c.lay) => First_c (w := W) hM c hok hL)
    have HS := Lib.hid (fun (W : World) g hB => SNewF_c c hok (w := W) (g := g) hB)
    generalize c.lay.all.toNat = na at HF HS
    have hV : Blk (w.alloc (.cells c.vals.toArray 24)) w.heap.size c.vals 24 := Blk.new _ _ _
    simp only [Cfg.vals] at HSM HN hV ⊢
    have HVE := Lib.hid (fun W (hW : Ext [] (w.alloc (.cells (List.toArray [Value.int .i64 c.c0, .int .i64 c.c1, .int .i64 c.c2, .int .i64 c.c3, .int .i64 c.c4, .int .i64 c.markers, .int .i64 c.mutators, .int .i64 c.deque, .int .i64 c.chunk, .int .i64 c.buffer, .int .i64 c.roots, .int .i64 c.sweep]) 24)) W) => (hV.ext hW (by simp)).cells)
    have HPP := Lib.hid hp
    have HAA := Lib.hid ha
    clear hV ha hp
    by_cases hg : 1 ≤ acts.length ∧ acts.length ≤ 40 ∧ picks.length ≤ 400
    · obtain ⟨g1, g2, g3⟩ := hg
      have g1' : ((acts.length : Int) == 0) = false := by rw [beq_eq_false_iff_ne]; omega
      have tok1 : True := trivial
      go_enter Try.func4, Try.ntmps4
      go_wp2_with (first | (go_at_call 12; refine (HA.out _).mono ?_; rintro e w1 ⟨rfl, hE1⟩; have hv1 := HVE.out _ hE1) | (go_at_call 13; refine (HSM.out _).mono ?_; rintro e w2 ⟨rfl, hE2⟩; have hE12 := hE1.trans hE2 (by simp); have hv2 := HVE.out _ hE12) | (go_at_call 14; refine (HN.out _).mono ?_; rintro e w3 ⟨μ, rfl, hL, hM, hE3, hm1, hm2, hm3⟩) | (go_at_call 16; refine (HF.out _ μ hM hL).mono ?_; rintro e w4 ⟨g, rfl, hB, hE4, hg4⟩) | (go_at_call 15; refine (HS.out _ _ hB).mono ?_; rintro e w5 ⟨σ, rfl, hσ, hmem, hn0, hE5, hs1, hs2⟩) | (at_make; refine wpList_make_blk _ rfl _ _ 54 rfl 37 j0 (.pointer none) pm_ptr_slice JI.out JZ.out JZ1.out rfl .i64 .i64 3 rfl rfl (by rw [JZ2.out]; omega) (by omega) ?_; intro w6 bw hB6 hE6 hg6) | (at_make; have _t := tok1; refine wpList_make_blk _ rfl (.const (.int .i64 3)) (.const (.int .i64 3)) 55 rfl 3 i0 (.int .i64 0) i64_slice HI.out HZ.out HZ1.out rfl .i64 .i64 3 rfl rfl (by rw [HZ2.out]; omega) (by omega) ?_; intro w7 bk hB7 hE7 hg7; clear tok1 _t) | (at_make; refine wpList_make_blk _ rfl (.const (.int .i64 3)) (.const (.int .i64 3)) 55 rfl 3 i0 (.int .i64 0) i64_slice HI.out HZ.out HZ1.out rfl .i64 .i64 3 rfl rfl (by rw [HZ2.out]; omega) (by omega) ?_; intro wh bh hBh hEh hgh) | (at_make; refine wpList_make_blk _ rfl (.const (.int .i64 400)) (.const (.int .i64 400)) 55 rfl 3 i0 (.int .i64 0) i64_slice HI.out HZ.out HZ1.out rfl .i64 .i64 400 rfl rfl (by rw [HZ2.out]; omega) (by omega) ?_; intro w8 bs hB8 hE8 hg8))
      have hIv := fun (i : Nat) (hi : (i : Int) ≤ 100000) => OS.run_inv c.lay acts picks (by have := c.few hok.cells hsm.2.1 hok.chunk.1 hok.markers.2 hok.mutators.2; omega) (fun x hx => (hp3 x hx).1) (OS.init_inv (acts := acts) (picks := picks) hok) 100000 (Int.le_refl _) i hi
      have HIV := Lib.hid hIv
      have hW0 : OW w μ ⟨σ.s, σ.sb, w8.heap.size, bw, bk, bh, bs⟩ (OS.run c.lay acts picks c.first 0) (fun _ => 0) w8 := by
        as_aux_lemma =>
          have a1 := hM.hm.lt
          have a2 := hM.ha.lt
          have a3 := hM.hr.lt
          have a4 := hσ.hs.lt
          have a5 := hσ.hb.lt
          have a6 := hB6.lt
          have a7 := hB7.lt
          have a8 := hBh.lt
          have a9 := hB8.lt
          have b0 := hE12.size
          have b1 := hE3.size
          have b2 := hE4.size
          have b3 := hE5.size
          have b4 := hE6.size
          have b5 := hE7.size
          have b6 := hEh.size
          have b7 := hE8.size
          have b8 := ((Ext.refl [] w).alloc (.cells #[Value.int .i64 c.c0, .int .i64 c.c1, .int .i64 c.c2, .int .i64 c.c3, .int .i64 c.c4, .int .i64 c.markers, .int .i64 c.mutators, .int .i64 c.deque, .int .i64 c.chunk, .int .i64 c.buffer, .int .i64 c.roots, .int .i64 c.sweep] 24)).size
          have hE := ((((((((Ext.refl [] w).alloc _).trans hE12 (by simp)).trans hE3 (by simp)).trans hE4 (by simp)).trans hE5 (by simp)).trans hE6 (by simp)).trans hE7 (by simp)).trans (hEh.trans hE8 (by simp)) (by simp)
          have hM8 := hM.ext0 ((hE4.trans hE5 (by simp)).trans ((hE6.trans hE7 (by simp)).trans (hEh.trans hE8 (by simp)) (by simp)) (by simp))
          have hσ8 := hσ.ext ((hE6.trans hE7 (by simp)).trans (hEh.trans hE8 (by simp)) (by simp)) (by simp) (by simp)
          have hB8' := hB8
          rw [i64s_replicate] at hB8'
          refine ⟨⟨σ, Env.mk0 hM8 hσ8 ⟨by omega, by omega, by omega, by omega, by omega, by omega⟩, hmem, rfl, rfl⟩, ⟨fun _ => (0, []), hB6.ext (hE7.trans (hEh.trans hE8 (by simp)) (by simp)) (by simp), fun k _ a ha => (by cases ha), fun j k _ _ _ h => absurd rfl h⟩, hB7.ext (hEh.trans hE8 (by simp)) (by simp), fun k _ a ha => (by cases ha), hBh.ext hE8 (by simp), hB8', hE, ⟨⟨by dsimp only; omega, by dsimp only; omega, by dsimp only; omega, by dsimp only; omega⟩, ⟨by dsimp only; omega, by dsimp only; omega, by dsimp only; omega, by dsimp only; omega, by dsimp only; omega, by dsimp only; omega⟩, fun g hg => ?_, ⟨by dsimp only; omega, by dsimp only; omega, by dsimp only; omega, by dsimp only; omega, by dsimp only; omega, by dsimp only; omega, by dsimp only; omega, by dsimp only; omega⟩⟩, ⟨by dsimp only; omega, by dsimp only; omega, by dsimp only; omega, by dsimp only; omega, by dsimp only; omega, by dsimp only; omega, by dsimp only; omega⟩⟩
          dsimp only at hg
          omega
      have HL := Lib.hid hL
      clear hE1 hE12 hE2 hE3 hE4 hE5 hE6 hE7 hEh hE8 hB6 hB7 hBh hB8 hB hv1 hv2 hM hL hσ hmem hn0 hs1 hs2 hm1 hm2 hm3 hg4 hg6 hg7 hgh hg8 hIv
      generalize σ.s = s at *
      generalize σ.sb = sb at *
      generalize w8.heap.size = hi at *
      go_loopg [18, 15, 16] (picks.length + 90) (fun gk v18 v15 v16 wr => ∃ (i : Nat) (K : Nat → Int), v18 = .int .i64 (i : Int) ∧ gk + i = picks.length + 90 ∧ v15 = .int .i64 ((OS.run c.lay acts picks c.first i).put : Int) ∧ v16 = .int .i64 ((OS.run c.lay acts picks c.first i).n : Int) ∧ OW w μ ⟨s, sb, hi, bw, bk, bh, bs⟩ (OS.run c.lay acts picks c.first i) K wr)
      case atStart => exact ⟨0, _, rfl, by omega, rfl, rfl, hW0⟩
      case round =>
        obtain ⟨i, K, rfl, hgi, rfl, rfl, hW⟩ := hrel
        clear hW0
        by_cases hi90 : i < picks.length + 90
        · have hi90' : (i : Int) < (picks.length : Int) + 90 := by omega
          go_upto_if 71 with (fail)
          go_cut [19] (fun s19 wx => s19 = .int .i64 (OS.who picks i : Int) ∧ wx = wr)
          case first =>
            as_aux_lemma =>
              by_cases hip : i < picks.length
              · have hwho : OS.who picks i = (picks.getD i 0 % 3).toNat := by unfold OS.who; rw [if_pos hip]
                have hx := hp3 _ (getD_mem picks i hip)
                obtain ⟨_, _, e, _, _, _, hcell⟩ := HPP.out.ext hW.ext
                simp only [Value.slice.injEq] at e
                obtain ⟨rfl, _, rfl⟩ := e
                obtain ⟨pb, off, rfl, hcc⟩ := hcell (by omega)
                have hc1 := hcc i hip
                have hip' : (i : Int) < (picks.length : Int) := by omega
                have HWHO := Lib.hid hwho
                clear hcc hcell hwho
                generalize picks.getD i 0 = q at hc1 hx HWHO
                obtain ⟨q0, q1⟩ := hx
                go_wp2_with fail
                go_meet
                refine ⟨?_, rfl⟩
                rw [HWHO.out, Int.toNat_of_nonneg (by omega)]
              · have hwho : OS.who picks i = i % 3 := by unfold OS.who; rw [if_neg hip]
                have HWHO := Lib.hid hwho
                clear hwho
                go_wp2_with fail
                go_meet
                refine ⟨?_, rfl⟩
                rw [HWHO.out]
                rfl
          case rest =>
            obtain ⟨rfl, rfl⟩ := hcut
            have hk3 := OS.who_lt picks i (fun x hx => (hp3 x hx).1)
            have hk3' : (OS.who picks i : Int) < 3 := by omega
            have HI := Lib.hid (HIV.out i (by omega))
            have hSn := OS.run_n c.lay acts picks c.first i
            have hSp := HI.out.put
            have hm300 := c.few hok.cells hsm.2.1 hok.chunk.1 hok.markers.2 hok.mutators.2
            have hmp := (c.lay_ok hok).many
            have hnx : OS.run c.lay acts picks c.first (i + 1) = OS.round c.lay acts picks i (OS.run c.lay acts picks c.first i) := rfl
            have HNX := Lib.hid hnx
            clear hnx
            generalize OS.run c.lay acts picks c.first i = S at *
            obtain ⟨k, hk⟩ : ∃ k, k = OS.who picks i := ⟨_, rfl⟩
            rw [← hk] at hk3 hk3' ⊢
            have HK := Lib.hid hk
            clear hk
            have hwc := hW.work
            obtain ⟨X, hX1, hX2, hX3⟩ := hwc
            have hcw : wc.cell? ⟨bw, k, none⟩ = some (ptrOf (S.w k) (X k).1) := by rw [hX1.cells, l3_get _ hk3]
            obtain ⟨oa, hoa⟩ : ∃ oa, oa = (S.w k).map fun _ => (⟨(X k).1, 0, none⟩ : Addr) := ⟨_, rfl⟩
            unfold ptrOf at hcw
            rw [← hoa] at hcw
            have HOA := Lib.hid hoa
            clear hoa
            go_upto_if 82 with (fail)
            go_cut [15, 16] (fun s15 s16 wx => OnceMid w μ ⟨s, sb, hi, bw, bk, bh, bs⟩ c.lay k ((i : Int) + 1) (OS.run c.lay acts picks c.first (i + 1)) s15 s16 wx)
            case first =>
              have hoa := HOA.out
              cases hSk : S.w k with
              | none =>
                as_aux_lemma =>
                  rw [hSk] at hoa
                  simp only [Option.map_none] at hoa
                  subst hoa
                  by_cases hle : picks.length ≤ i
                  · have hle' : (picks.length : Int) ≤ i := by omega
                    have HSK := Lib.hid hSk
                    clear hSk hSp
                    go_wp2_with fail
                    go_roundg (gk - 1)
                    case measure => omega
                    case rel =>
                      have e : OS.run c.lay acts picks c.first (i + 1) = S := by
                        rw [HNX.out]
                        unfold OS.round
                        simp only [← HK.out, HSK.out, hle, if_true]
                      refine ⟨i + 1, K, by simp, by omega, ?_, ?_, ?_⟩
                      · rw [e]
                      · rw [e]
                      · rw [e]; exact hW
                  · have hle' : (i : Int) < picks.length := by omega
                    have hch := hW.has.cells k
                    rw [i64s_l3_get _ hk3] at hch
                    have hfk := hW.kind.free k
                    have hck := hW.kind.cells k
                    rw [i64s_l3_get _ hk3] at hck
                    have hK2 := Lib.hid (fun v => hW.setKind hk3 hSk v)
                    have hbi := OS.begin_inv (acts := acts) hk3 HI.out hSk
                    obtain ⟨hI2, a2, ha2, _, _⟩ := hbi
                    have hrd : OS.run c.lay acts picks c.first (i + 1) = OS.act c.lay k (OS.begin c.lay acts k S) a2 := by
                      rw [HNX.out]
                      unfold OS.round
                      simp only [← HK.out, hSk, hle, if_false, ha2]
                    have HI2 := Lib.hid hI2
                    have HA2 := Lib.hid ha2
                    have HRD := Lib.hid hrd
                    have HSK := Lib.hid hSk
                    clear hSk hI2 ha2 hrd
                    dsimp only at hch hfk hck
                    obtain ⟨e1, e2, e3, e4, e5, e6⟩ := hW.ok.ne
                    dsimp only at e1 e2 e3 e4 e5 e6
                    have e1' := Ne.symm e1
                    have e2' := Ne.symm e2
                    have e4' := Ne.symm e4
                    by_cases h0 : 0 < S.has k
                    · have hbg : OS.begin c.lay acts k S = { S with n := S.n + 1, w := upd S.w k (some ⟨2, PM.back c.lay (S.has k)⟩) } := by unfold OS.begin; rw [if_pos h0]
                      as_aux_lemma =>
                        have HBG := Lib.hid hbg
                        clear hbg
                        generalize hhs : S.has k = hs at hch h0 HBG
                        clear hhs
                        have hkk := hK2.out 2
                        dsimp only at hkk
                        have HKK := Lib.hid (hkk.ext0 (Ext.refl [] _))
                        have HMP := Lib.hid ((fun W (hW : IsMap W μ) => (show Calls Try.prog 26 #[μ.ptr, .int .i64 hs] W (NewPM W μ (PM.back c.lay hs)) from by { have h := NewBack_c hW hs; rw [HL.out] at h; exact h })))
                        clear hkk
                        go_wp2_with (first | (go_at_call 27; refine HPK.out.mono ?_; rintro e wpk ⟨rfl, rfl⟩) | (go_at_call 26; refine (HMP.out _ HKK.out.map).mono ?_; rintro e wn hnp; obtain ⟨xn, rfl, hcn, hfn, hWn⟩ := HKK.out.begun' hk3 HSK.out hnp (upd_same _ _ _); have HWN := Lib.hid hWn; clear hWn hnp; dsimp only at hcn hfn))
                        go_meet
                        refine ⟨OS.begin c.lay acts k S, upd K k 2, a2, ?_, ?_, HA2.out, ?_, HI2.out, HRD.out⟩
                        · rw [HBG.out]; try simp
                        · rw [HBG.out]; try simp
                        · rw [HBG.out]; exact HWN.out.same rfl rfl rfl rfl
                    · obtain ⟨jn, hjn⟩ : ∃ jn, jn = (S.n + 1) % acts.length := ⟨_, rfl⟩
                      as_aux_lemma =>
                        have hjl : jn < acts.length := by rw [hjn]; exact Nat.mod_lt _ (by omega)
                        have hje : ((S.n : Int) + 1) % (acts.length : Int) = (jn : Int) := by rw [hjn]; simp
                        have hax := ha3 _ (getD_mem acts jn hjl)
                        obtain ⟨_, _, e, _, _, _, hacell⟩ := HAA.out.ext hW.ext
                        simp only [Value.slice.injEq] at e
                        obtain ⟨rfl, _, rfl⟩ := e
                        obtain ⟨ab, aoff, rfl, hacc⟩ := hacell (by omega)
                        have hac1 := hacc jn hjl
                        have hbg : OS.begin c.lay acts k S = if acts.getD jn 0 % 2 = 0 ∧ (S.put : Int) < c.lay.many - 3 then { S with n := S.n + 1, put := S.put + 1, w := upd S.w k (some ⟨0, PM.put [(S.put : Int) + 1]⟩) } else { S with n := S.n + 1, w := upd S.w k (some ⟨1, PM.take⟩) } := by unfold OS.begin; rw [if_neg h0, hjn]
                        have HBG0 := Lib.hid hbg
                        clear hbg hacell hacc hjn
                        have hjl' : (jn : Int) < (acts.length : Int) := by omega
                        have hl0 : ¬ (acts.length : Int) = 0 := by omega
                        generalize acts.getD jn 0 = q at hac1 hax HBG0
                        obtain ⟨q0, q1⟩ := hax
                        have HPK := Lib.hid (show Calls Try.prog 27 #[μ.ptr] wc fun e w' => e = .returned (.int .i64 c.lay.many) ∧ wc = w' from by { have h := Packets_c hW.map; rw [HL.out] at h; exact h })
                        generalize S.has k = hs at hch h0
                        by_cases hev : q % 2 = 0
                        · have hevb : (q % 2 == 0) = true := by rw [hev]; rfl
                          by_cases hlt : (S.put : Int) < c.lay.many - 3
                          · have HBG := Lib.hid (HBG0.out.trans (if_pos ⟨hev, hlt⟩))
                            clear hev
                            as_aux_lemma =>
                              have hkk := hK2.out 0
                              dsimp only at hkk
                              have HKK := Lib.hid (hkk.ext0 ((Ext.refl [] _).alloc (.cells #[.int .u64 ((S.put : Int) + 1)] 39)))
                              have HMP := Lib.hid (put1_c (μ := μ) ((S.put : Int) + 1) (by simp [U64]; omega) (wc.setCell ⟨bk, k, none⟩ (.int .i64 0)) wc.heap.size (by rw [World.size_setCell]))
                              clear hkk
                              go_wp2_with (first | (go_at_call 27; refine HPK.out.mono ?_; rintro e wpk ⟨rfl, rfl⟩) | (go_at_call 18; refine (HMP.out HKK.out.map).mono ?_; rintro e wn hnp; obtain ⟨xn, rfl, hcn, hfn, hWn⟩ := HKK.out.begun' hk3 HSK.out hnp (upd_same _ _ _); have HWN := Lib.hid hWn; clear hWn hnp; dsimp only at hcn hfn))
                              go_meet
                              refine ⟨OS.begin c.lay acts k S, upd K k 0, a2, ?_, ?_, HA2.out, ?_, HI2.out, HRD.out⟩
                              · rw [HBG.out]; try simp
                              · rw [HBG.out]; try simp
                              · rw [HBG.out]; exact HWN.out.same rfl rfl rfl rfl
                          · have HBG := Lib.hid (HBG0.out.trans (if_neg (fun h => hlt h.2)))
                            clear hev
                            as_aux_lemma =>
                              have hkk := hK2.out 1
                              dsimp only at hkk
                              have HKK := Lib.hid (hkk.ext0 (Ext.refl [] _))
                              have HMP := Lib.hid ((fun (W : World) (hW : IsMap W μ) => NewTake_c hW))
                              clear hkk
                              go_wp2_with (first | (go_at_call 27; refine HPK.out.mono ?_; rintro e wpk ⟨rfl, rfl⟩) | (go_at_call 28; refine (HMP.out _ HKK.out.map).mono ?_; rintro e wn hnp; obtain ⟨xn, rfl, hcn, hfn, hWn⟩ := HKK.out.begun' hk3 HSK.out hnp (upd_same _ _ _); have HWN := Lib.hid hWn; clear hWn hnp; dsimp only at hcn hfn))
                              go_meet
                              refine ⟨OS.begin c.lay acts k S, upd K k 1, a2, ?_, ?_, HA2.out, ?_, HI2.out, HRD.out⟩
                              · rw [HBG.out]; try simp
                              · rw [HBG.out]; try simp
                              · rw [HBG.out]; exact HWN.out.same rfl rfl rfl rfl
                        · have hevb : (q % 2 == 0) = false := by rw [beq_eq_false_iff_ne]; exact hev
                          have HBG := Lib.hid (HBG0.out.trans (if_neg (fun h => hev h.1)))
                          clear hev
                          as_aux_lemma =>
                            have hkk := hK2.out 1
                            dsimp only at hkk
                            have HKK := Lib.hid (hkk.ext0 (Ext.refl [] _))
                            have HMP := Lib.hid ((fun (W : World) (hW : IsMap W μ) => NewTake_c hW))
                            clear hkk
                            go_wp2_with (first | (go_at_call 27; refine HPK.out.mono ?_; rintro e wpk ⟨rfl, rfl⟩) | (go_at_call 28; refine (HMP.out _ HKK.out.map).mono ?_; rintro e wn hnp; obtain ⟨xn, rfl, hcn, hfn, hWn⟩ := HKK.out.begun' hk3 HSK.out hnp (upd_same _ _ _); have HWN := Lib.hid hWn; clear hWn hnp; dsimp only at hcn hfn))
                            go_meet
                            refine ⟨OS.begin c.lay acts k S, upd K k 1, a2, ?_, ?_, HA2.out, ?_, HI2.out, HRD.out⟩
                            · rw [HBG.out]; try simp
                            · rw [HBG.out]; try simp
                            · rw [HBG.out]; exact HWN.out.same rfl rfl rfl rfl
              | some a =>
                as_aux_lemma =>
                  rw [hSk] at hoa
                  simp only [Option.map_some] at hoa
                  subst hoa
                  go_wp2_with fail
                  go_meet
                  refine ⟨S, K, a, rfl, rfl, hSk, hW, HI.out, ?_⟩
                  rw [HNX.out]
                  unfold OS.round
                  simp only [← HK.out, hSk]
            case rest =>
              as_aux_lemma =>
                obtain ⟨S1, K1, a, rfl, rfl, hSa, hW1, hI1, hSn⟩ := hcut
                clear hW hcw HOA hX1 hX2 hX3 HK HNX HI
                obtain ⟨x, hx, hst⟩ := hW1.step hk3 hSa
                rw [HL.out] at hst
                obtain ⟨hI3, hchk⟩ := OS.act_inv (by omega) hk3 hI1 hSa (by omega)
                have hkd := hI1.kinds hk3 hSa
                have hkk := hW1.kinds k hk3 a hSa
                have hgo := OS.act_go (L := c.lay) (S := S1) (k := k) (a := a)
                have hbk := OS.act_back (L := c.lay) (S := S1) (k := k) (a := a)
                have htk := OS.act_take (L := c.lay) (S := S1) (k := k) (a := a)
                have hel := OS.act_else (L := c.lay) (S := S1) (k := k) (a := a)
                have hpn : (OS.act c.lay k S1 a).put = S1.put ∧ (OS.act c.lay k S1 a).n = S1.n := ⟨(OS.act_mem k S1 a).2.2.2.1, (OS.act_mem k S1 a).2.2.2.2⟩
                generalize PM.on c.lay (S1.mem, a.m) = q at hst hchk hgo hbk htk hel
                obtain ⟨mem2, m2⟩ := q
                have HST := Lib.hid hst
                have HSN := Lib.hid hSn
                have HPN := Lib.hid hpn
                have HKD := Lib.hid hkd
                have HKK := Lib.hid hkk
                have hput := hI1.put
                have hsle := hI1.seen
                have HSI := Lib.hid (fun t (a : (1:Int) ≤ t) b => hI1.seen_in (by omega) (t := t) a b)
                clear hst hSn hpn hI3 hkd hkk hI1 hW1
                dsimp only at hgo hbk htk hel hchk
                by_cases hpc : m2.pc = 0
                · have HCHK := Lib.hid (hchk hpc)
                  have HBK := Lib.hid (hbk hpc)
                  have HTK := Lib.hid (htk hpc)
                  have HEL := Lib.hid (hel hpc)
                  clear hgo hbk htk hel hchk
                  have HOK := Lib.hid (fun W (h : OW w μ ⟨s, sb, hi, bw, bk, bh, bs⟩ S1 K1 W) => h.ok.ne)
                  have hkd := HKD.out
                  rcases hkd with hz | hz | hz
                  · have HKN := Lib.hid (show K1 k = 0 from by rw [HKK.out, hz]; rfl)
                    have HEL2 := Lib.hid (HEL.out (by omega) (by omega))
                    clear hz
                    as_aux_lemma =>
                      go_wp2_with (first | (go_at_call 29; refine HST.out.mono ?_; rintro e w2 ⟨rfl, hW2, hx2⟩; simp only [hpc, decide_true]; have hpk := hW2.packet hk3 (upd_same _ _ _) hx2; simp only [hpc, if_true] at hpk; have hck := hW2.ck hk3; rw [HKN.out] at hck; have hch := hW2.ch hk3; have hcw := hW2.cw hk3; obtain ⟨hck1, hck2⟩ := hck; obtain ⟨hch1, hch2⟩ := hch; obtain ⟨_, hcw2⟩ := hcw; dsimp only at hck1 hck2 hch1 hch2 hcw2; obtain ⟨e1, e2, e3, e4, e5, e6⟩ := hW2.ok.ne; dsimp only at e1 e2 e3 e4 e5 e6; have e1' := Ne.symm e1; have e2' := Ne.symm e2; have e4' := Ne.symm e4; have HW2 := Lib.hid hW2; clear hW2; have HPK := Lib.hid hpk; clear hpk) | (go_at_call 30; refine HPK.out.mono ?_; rintro e w2' ⟨rfl, rfl⟩))
                      go_roundg (gk - 1)
                      case measure => omega
                      case rel =>
                        refine ⟨i + 1, K1, by simp, by omega, ?_, ?_, ?_⟩
                        · rw [HSN.out, HPN.out.1]
                        · rw [HSN.out, HPN.out.2]
                        · rw [HSN.out, HEL2.out];  exact (HW2.out.drop hk3).same rfl (upd_upd _ _ _ _).symm rfl rfl
                  · have HKN := Lib.hid (show K1 k = 1 from by rw [HKK.out, hz]; rfl)
                    by_cases hp0 : 0 < m2.p
                    · have hch := HCHK.out hz hp0
                      have HTK2 := Lib.hid (HTK.out hz hp0)
                      clear hz
                      obtain ⟨hc1, hc2, hc3⟩ := hch
                      have hsi := HSI.out _ hc1 hc2
                      obtain ⟨tn, htn⟩ : ∃ tn : Nat, (tn : Int) = ld mem2 (c.lay.task m2.p 0) := ⟨_, Int.toNat_of_nonneg (by omega)⟩
                      have HTN := Lib.hid htn.symm
                      rw [← htn] at hc1 hc2 hsi
                      rw [Int.toNat_natCast] at hsi
                      clear htn
                      have HC3 := Lib.hid hc3
                      clear hc3
                      have hpo : S1.put ≤ 300 := by omega
                      have htl : tn < S1.seen.length := by omega
                      have htl4 : (tn : Int) < 400 := by omega
                      have HTASK := Lib.hid (fun W (hM : IsMap W μ) => HL.out ▸ Task_c hM m2.p 0)
                      have HMANY := Lib.hid (fun W (hM : IsMap W μ) => HL.out ▸ Many_c hM m2.p)
                      obtain ⟨sv, hsv⟩ : ∃ sv, sv = S1.seen.getD tn 0 := ⟨_, rfl⟩
                      rw [← hsv] at hsi
                      have HSV := Lib.hid hsv.symm
                      clear hsv
                      obtain ⟨hs1, hs2⟩ := hsi
                      have tokA : True := trivial
                      as_aux_lemma =>
                        go_wp2_with (first | (go_at_call 29; refine HST.out.mono ?_; rintro e w2 ⟨rfl, hW2, hx2⟩; simp only [hpc, decide_true]; have hpk := hW2.packet hk3 (upd_same _ _ _) hx2; simp only [hpc, if_true] at hpk; have hck := hW2.ck hk3; rw [HKN.out] at hck; have hch := hW2.ch hk3; have hcw := hW2.cw hk3; obtain ⟨hck1, hck2⟩ := hck; obtain ⟨hch1, hch2⟩ := hch; obtain ⟨_, hcw2⟩ := hcw; dsimp only at hck1 hck2 hch1 hch2 hcw2; obtain ⟨e1, e2, e3, e4, e5, e6⟩ := hW2.ok.ne; dsimp only at e1 e2 e3 e4 e5 e6; have e1' := Ne.symm e1; have e2' := Ne.symm e2; have e4' := Ne.symm e4; have HW2 := Lib.hid hW2; clear hW2; have HPK := Lib.hid hpk; clear hpk) | (go_at_call 30; refine HPK.out.mono ?_; rintro e w2' ⟨rfl, rfl⟩) | (go_at_call 32; refine (HTASK.out _ HW2.out.map).mono ?_; rintro e w3 ⟨rfl, rfl⟩) | (go_at_call 33; refine (HMANY.out _ HW4.out.map).mono ?_; rintro e w5 ⟨rfl, rfl⟩) | (go_at_call 31; have _t := tokA; clear tokA _t; refine (HW2.out.load' _ _ HTN.out).mono ?_; rintro e w4 ⟨rfl, hW4⟩; have HW4 := Lib.hid hW4; clear hW4) | (go_at_call 31; refine (HW4.out.load' _ _ HC3.out).mono ?_; rintro e w6 ⟨rfl, hW6⟩; have hcs := hW6.cs htl; dsimp only at hcs; rw [HSV.out] at hcs; have hch := hW6.ch hk3; have hcw := hW6.cw hk3; obtain ⟨hcs1, hcs2⟩ := hcs; obtain ⟨hdh1, hdh2⟩ := hch; obtain ⟨⟨xw, hdw1⟩, hdw2⟩ := hcw; dsimp only at hcs1 hcs2 hdh1 hdh2 hdw1 hdw2; have HW6 := Lib.hid hW6; clear hW6))
                        go_roundg (gk - 1)
                        case measure => omega
                        case rel =>
                          refine ⟨i + 1, K1, by simp, by omega, ?_, ?_, ?_⟩
                          · rw [HSN.out, HPN.out.1]
                          · rw [HSN.out, HPN.out.2]
                          · rw [HSN.out, HTK2.out]; simp only [HTN.out, Int.toNat_natCast, HSV.out]; exact (((HW6.out.setSeen (t := tn) (sv + 1)).setHas hk3 m2.p).drop hk3).same rfl (upd_upd _ _ _ _).symm rfl rfl
                    · have HEL2 := Lib.hid (HEL.out (by omega) (fun h => hp0 h.2))
                      clear hz
                      as_aux_lemma =>
                        go_wp2_with (first | (go_at_call 29; refine HST.out.mono ?_; rintro e w2 ⟨rfl, hW2, hx2⟩; simp only [hpc, decide_true]; have hpk := hW2.packet hk3 (upd_same _ _ _) hx2; simp only [hpc, if_true] at hpk; have hck := hW2.ck hk3; rw [HKN.out] at hck; have hch := hW2.ch hk3; have hcw := hW2.cw hk3; obtain ⟨hck1, hck2⟩ := hck; obtain ⟨hch1, hch2⟩ := hch; obtain ⟨_, hcw2⟩ := hcw; dsimp only at hck1 hck2 hch1 hch2 hcw2; obtain ⟨e1, e2, e3, e4, e5, e6⟩ := hW2.ok.ne; dsimp only at e1 e2 e3 e4 e5 e6; have e1' := Ne.symm e1; have e2' := Ne.symm e2; have e4' := Ne.symm e4; have HW2 := Lib.hid hW2; clear hW2; have HPK := Lib.hid hpk; clear hpk) | (go_at_call 30; refine HPK.out.mono ?_; rintro e w2' ⟨rfl, rfl⟩))
                        go_roundg (gk - 1)
                        case measure => omega
                        case rel =>
                          refine ⟨i + 1, K1, by simp, by omega, ?_, ?_, ?_⟩
                          · rw [HSN.out, HPN.out.1]
                          · rw [HSN.out, HPN.out.2]
                          · rw [HSN.out, HEL2.out];  exact (HW2.out.drop hk3).same rfl (upd_upd _ _ _ _).symm rfl rfl
                  · have HKN := Lib.hid (show K1 k = 2 from by rw [HKK.out, hz]; rfl)
                    have HBK2 := Lib.hid (HBK.out hz)
                    clear hz
                    as_aux_lemma =>
                      go_wp2_with (first | (go_at_call 29; refine HST.out.mono ?_; rintro e w2 ⟨rfl, hW2, hx2⟩; simp only [hpc, decide_true]; have hpk := hW2.packet hk3 (upd_same _ _ _) hx2; simp only [hpc, if_true] at hpk; have hck := hW2.ck hk3; rw [HKN.out] at hck; have hch := hW2.ch hk3; have hcw := hW2.cw hk3; obtain ⟨hck1, hck2⟩ := hck; obtain ⟨hch1, hch2⟩ := hch; obtain ⟨_, hcw2⟩ := hcw; dsimp only at hck1 hck2 hch1 hch2 hcw2; obtain ⟨e1, e2, e3, e4, e5, e6⟩ := hW2.ok.ne; dsimp only at e1 e2 e3 e4 e5 e6; have e1' := Ne.symm e1; have e2' := Ne.symm e2; have e4' := Ne.symm e4; have HW2 := Lib.hid hW2; clear hW2; have HPK := Lib.hid hpk; clear hpk) | (go_at_call 30; refine HPK.out.mono ?_; rintro e w2' ⟨rfl, rfl⟩))
                      go_roundg (gk - 1)
                      case measure => omega
                      case rel =>
                        refine ⟨i + 1, K1, by simp, by omega, ?_, ?_, ?_⟩
                        · rw [HSN.out, HPN.out.1]
                        · rw [HSN.out, HPN.out.2]
                        · rw [HSN.out, HBK2.out];  exact ((HW2.out.setHas hk3 0).drop hk3).same rfl (upd_upd _ _ _ _).symm rfl rfl
                · have HGO := Lib.hid (hgo hpc)
                  clear hgo hbk htk hel hchk
                  go_wp2_with (go_at_call 29; refine HST.out.mono ?_; rintro e w2 ⟨rfl, hW2, hx2⟩; simp only [hpc, decide_false]; have HW2 := Lib.hid hW2; clear hW2)
                  go_roundg (gk - 1)
                  case measure => omega
                  case rel =>
                    refine ⟨i + 1, K1, by simp, by omega, ?_, ?_, ?_⟩
                    · rw [HSN.out, HPN.out.1]
                    · rw [HSN.out, HPN.out.2]
                    · rw [HSN.out, HGO.out]; exact HW2.out
        · have hie : i = picks.length + 90 := by omega
          subst hie
          as_aux_lemma =>
            obtain ⟨hwd, hne, hhl, hhr, hts⟩ := OS.end_seen (acts := acts) (picks := picks) (L := c.lay) (mem := c.first) (by have := c.few hok.cells hsm.2.1 hok.chunk.1 hok.markers.2 hok.mutators.2; omega) (fun x hx => (hp3 x hx).1) (by omega) (OS.init_inv hok)
            have hIe := HIV.out (picks.length + 90) (by omega)
            have hse := hIe.seen
            have hpb := hIe.put
            have hm300 := c.few hok.cells hsm.2.1 hok.chunk.1 hok.markers.2 hok.mutators.2
            have hq := hW.held hwd hne
            rw [HL.out] at hq
            clear HIV hIe
            generalize OS.run c.lay acts picks c.first (picks.length + 90) = S at *
            obtain ⟨H, hH⟩ : ∃ H, H = heldM c.lay S.mem := ⟨_, rfl⟩
            rw [← hH] at hhl hhr hts hq
            have HHD := Lib.hid hq
            have hpo : S.put ≤ 300 := by omega
            have HHR := Lib.hid hhr
            have HTS := Lib.hid hts
            clear hq hH hwd hne hhr hts hpb hW
            obtain ⟨gko, rfl⟩ : ∃ g, g = gk := ⟨_, rfl⟩
            obtain ⟨wo, rfl⟩ : ∃ g, g = wr := ⟨_, rfl⟩
            go_wp2_with (first | (go_at_call 22; refine HHD.out.mono ?_; rintro e wa ⟨v, rfl, hHe⟩; have HHE := Lib.hid hHe; clear hHe) | (go_at_call 21; refine HHE.out.mono ?_; rintro e wh ⟨hv, bo, rfl, hSl, hWh, hbo⟩; obtain ⟨ha, hcap, rfl⟩ := hSl.form; have hE0 : EndW w bs S.seen H (.slice ha H.length hcap) bo wh := ⟨hWh.seen, hSl, hWh.ext, hWh.new.2.2.2.2.2.2, hbo⟩; clear hSl hWh hbo))
            go_loopg [23] (H.length) (fun gk v23 wr => ∃ j : Nat, v23 = .int .i64 (j : Int) ∧ gk + j = H.length ∧ EndW w bs (bumps S.seen (H.take j)) H (.slice ha H.length hcap) bo wr)
            case atStart => exact ⟨0, rfl, by omega, hE0⟩
            case round =>
              obtain ⟨j, rfl, hgj, hE⟩ := hrel
              clear hE0
              by_cases hj : j < H.length
              · have hj' : (j : Int) < (H.length : Int) := by omega
                obtain ⟨g, cap, e, hcell, hgb⟩ := hE.cell hj
                simp only [Value.slice.injEq] at e
                obtain ⟨rfl, _, rfl⟩ := e
                have hr := HHR.out _ (getD_mem H j hj)
                obtain ⟨hn, hhn⟩ : ∃ hn : Nat, (hn : Int) = H.getD j 0 := ⟨_, Int.toNat_of_nonneg (by omega)⟩
                have htt := HTS.out hn (by omega) (by omega)
                have hbi := bumps_in (s := S.seen) (l := H) (fun h hh => by have := HHR.out h hh; omega) (t := hn) (by omega) htt.1 (by omega) j
                have hgt := hE.get (t := hn) (by rw [bumps_len]; omega)
                have hset := hE.set hn ((bumps S.seen (H.take j)).getD hn 0 + 1)
                have hbt := bumps_take S.seen H j hj
                unfold bump at hbt
                rw [← hhn, Int.toNat_natCast] at hbt
                rw [← hbt] at hset
                rw [← hhn] at hcell hr
                have HSET := Lib.hid hset
                have hn4 : (hn : Int) < 400 := by omega
                generalize (bumps S.seen (H.take j)).getD hn 0 = sv at hbi hgt HSET
                clear hset hhn htt hbt hE
                obtain ⟨hg1, hg2⟩ := hgt
                obtain ⟨hr1, hr2⟩ := hr
                obtain ⟨hb1, hb2⟩ := hbi
                have hgb' := Ne.symm hgb
                go_wp2_with fail
                go_roundg (gk - 1)
                case measure => omega
                case rel => exact ⟨j + 1, by simp, by omega, HSET.out⟩
              · have hjl : j = H.length := by omega
                subst hjl
                rw [List.take_length] at hE
                obtain ⟨gki, rfl⟩ : ∃ g, g = gk := ⟨_, rfl⟩
                obtain ⟨wi, rfl⟩ : ∃ g, g = wr := ⟨_, rfl⟩
                go_wp2_with fail
                go_loopg [24] (S.put) (fun gk v24 wr => ∃ t : Nat, v24 = .int .i64 (t : Int) ∧ 1 ≤ t ∧ gk + t = S.put + 1 ∧ EndW w bs (bumps S.seen H) H (.slice ha H.length hcap) bo wr)
                case atStart => exact ⟨1, rfl, by omega, by omega, hE⟩
                case round =>
                  obtain ⟨t, rfl, ht1, hgt, hE2⟩ := hrel
                  by_cases htp : t ≤ S.put
                  · have htp' : (t : Int) ≤ (S.put : Int) := by omega
                    have hv1 := (HTS.out t ht1 htp).2
                    obtain ⟨hc1, hc2⟩ := hE2.get (t := t) (by rw [bumps_len]; omega)
                    rw [hv1] at hc1
                    have ht4 : (t : Int) < 400 := by omega
                    go_wp2_with fail
                    go_roundg (gk - 1)
                    case measure => omega
                    case rel => exact ⟨t + 1, by simp, by omega, by omega, hE2⟩
                  · have htp' : ¬ (t : Int) ≤ (S.put : Int) := by omega
                    go_wp2_with fail
                    go_ret
                    exact ⟨rfl, hE2.2.2.1⟩
    · -- @arm sizes
      go_enter Try.func4, Try.ntmps4
      have hg' : ¬ (1 ≤ (acts.length : Int) ∧ (acts.length : Int) ≤ 40 ∧ (picks.length : Int) ≤ 400) := fun h => hg (by omega)
      by_cases g1 : (acts.length : Int) = 0
      · have g1' : ((acts.length : Int) == 0) = true := by rw [g1]; rfl
        go_wp2_with (first | (go_at_call 12; refine (HA.out _).mono ?_; rintro e w1 ⟨rfl, hE1⟩; have hv1 := HVE.out _ hE1) | (go_at_call 13; refine (HSM.out _).mono ?_; rintro e w2 ⟨rfl, hE2⟩; have hE12 := hE1.trans hE2 (by simp); have hv2 := HVE.out _ hE12))
        go_ret
        exact ⟨rfl, ((Ext.refl [] w).alloc _).trans hE12 (by simp)⟩
      · have g1' : ((acts.length : Int) == 0) = false := by rw [beq_eq_false_iff_ne]; omega
        by_cases g2 : (acts.length : Int) ≤ 40
        · have g3 : ¬ (picks.length : Int) ≤ 400 := fun h => hg' ⟨by omega, g2, h⟩
          go_wp2_with (first | (go_at_call 12; refine (HA.out _).mono ?_; rintro e w1 ⟨rfl, hE1⟩; have hv1 := HVE.out _ hE1) | (go_at_call 13; refine (HSM.out _).mono ?_; rintro e w2 ⟨rfl, hE2⟩; have hE12 := hE1.trans hE2 (by simp); have hv2 := HVE.out _ hE12))
          go_ret
          exact ⟨rfl, ((Ext.refl [] w).alloc _).trans hE12 (by simp)⟩
        · go_wp2_with (first | (go_at_call 12; refine (HA.out _).mono ?_; rintro e w1 ⟨rfl, hE1⟩; have hv1 := HVE.out _ hE1) | (go_at_call 13; refine (HSM.out _).mono ?_; rintro e w2 ⟨rfl, hE2⟩; have hE12 := hE1.trans hE2 (by simp); have hv2 := HVE.out _ hE12))
          go_ret
          exact ⟨rfl, ((Ext.refl [] w).alloc _).trans hE12 (by simp)⟩
  · -- @arm not_small
    have HA := Lib.hid (fun W => Awake11_c W)
    have HSM := Lib.hid (fun W => Small11_no c hsm W)
    have hV : Blk (w.alloc (.cells c.vals.toArray 24)) w.heap.size c.vals 24 := Blk.new _ _ _
    simp only [Cfg.vals] at HSM hV ⊢
    have HVE := Lib.hid (fun W (hW : Ext [] (w.alloc (.cells (List.toArray [Value.int .i64 c.c0, .int .i64 c.c1, .int .i64 c.c2, .int .i64 c.c3, .int .i64 c.c4, .int .i64 c.markers, .int .i64 c.mutators, .int .i64 c.deque, .int .i64 c.chunk, .int .i64 c.buffer, .int .i64 c.roots, .int .i64 c.sweep]) 24)) W) => (hV.ext hW (by simp)).cells)
    clear hV ha hp
    go_enter Try.func4, Try.ntmps4
    go_wp2_with (first | (go_at_call 12; refine (HA.out _).mono ?_; rintro e w1 ⟨rfl, hE1⟩; have hv1 := HVE.out _ hE1) | (go_at_call 13; refine (HSM.out _).mono ?_; rintro e w2 ⟨rfl, hE2⟩; have hE12 := hE1.trans hE2 (by simp); have hv2 := HVE.out _ hE12))
    go_ret
    exact ⟨rfl, ((Ext.refl [] w).alloc _).trans hE12 (by simp)⟩
end Go.Proofs.Ytcgnficlcgmffaa
