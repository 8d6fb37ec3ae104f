/-
  stack.Walk: the things of a stack.
-/
import Derived.ScopeJumps
import Derived.WalkMore
import Derived.Test.YtcgnficlcgmffaaFirstC
import Derived.Test.YtcgnficlcgmffaaWalkM
namespace Go.Proofs.Ytcgnficlcgmffaa
open Go.RowKit

def slen : Value → Nat
  | .slice _ n _ => n
  | _ => 0
theorem RdU.cell {w : World} {v : Value} {ts : List Int} (h : RdU w v ts) : ∃ a cap, v = .slice a ts.length cap ∧ ts.length ≤ cap ∧ (ts.length : Int) ≤ 9223372036854775807 ∧
    ∀ i : Int, 0 ≤ i → i < ts.length → ∃ b off, a = some ⟨b, off, none⟩ ∧ w.cell? ⟨b, off + i.toNat, none⟩ = some (.int .u64 (ld ts i)) := by
  obtain ⟨a, cap, e, c1, c2, c3⟩ := h
  refine ⟨a, cap, e, c1, by unfold maxLen at c2; omega, fun i i0 i1 => ?_⟩
  obtain ⟨b, off, ha, hc⟩ := c3 (by omega)
  refine ⟨b, off, ha, ?_⟩
  rw [hc i.toNat (by omega)]
  unfold ld
  rw [if_pos ⟨i0, i1⟩]

theorem wp_scope_again {P : Program} {a : Act} {w : World} {Q : Exit → Act → World → Prop} {c rest : Code} (l : Nat) (J : Act → World → Prop) (μ : Act → World → Nat) (hf : findLabel c l = some rest)
    (pass : ∀ a w, J a w → rest.wp P (Exit.jump l (fun a' w' => J a' w' ∧ μ a' w' < μ a w) Q) a w)
    (first : (∀ a w, J a w → rest.wp P (Exit.jump l J Q) a w) → c.wp P (Exit.jump l J Q) a w) : (Code.scope c).wp P Q a w :=
  wp_scope_jumps l J μ hf (first fun a w h => wp_mono (pass a w h) fun e a w hq => by
    cases e <;> first | exact hq | exact ⟨hq.1, hq.2.1⟩) pass

def WalkJ (w : World) (fv : Value) (lk : Int → Int) (l : List Int) (a : Option Addr) (cap : Nat) (head most : Int) (a' : Act) (W : World) : Prop :=
  ∃ (place : Int) (out : List Int) (v : Value) (bo : Option Nat) (u1 u4 u5 u6 u7 u8 u11 u12 u13 u14 u15 u16 u17 u18 u19 u20 u21 u22 u23 u24 u25 u26 u27 u28 u29 u30 u31 u32 u33 u34 u35 u36 u37 u38 u39 u40 u41 u42 : Value), a' = { tmps := #[.slice a l.length cap, u1, fv, .int .i64 most, u4, u5, u6, u7, u8, v, .int .i64 place, u11, u12, u13, u14, u15, u16, u17, u18, u19, u20, u21, u22, u23, u24, u25, u26, u27, u28, u29, u30, u31, u32, u33, u34, u35, u36, u37, u38, u39, u40, u41, u42], defers := [] } ∧
    (out.length : Int) ≤ max most 0 ∧ Sl W 3 1 bo v out.length (i64s out) ∧ out ++ walkM lk l (most.toNat - out.length) place = walkM lk l most.toNat head ∧ Ext [] w W ∧ ∀ g, bo = some g → w.heap.size ≤ g
section
variable {w : World} {μ : Mp} (hμ : IsMap w μ) (b : Bool) (l : List Int) (lv : Value) (hl : RdU w lv l) (hu : Wds l)
include hμ hl hu
set_option maxRecDepth 100000 in
set_option maxHeartbeats 2000000 in
theorem Walk_c (head : Int) (most : Int) (hm : most ≤ 100000) : Calls Try.prog 91 #[lv, .int .i64 head, atv μ b, .int .i64 most] w fun e w' =>
    ∃ v bo n, e = .returned v ∧ Sl w' 3 1 bo v n (i64s (walkM (lk μ b) l most.toNat head)) ∧ Ext [] w w' ∧ ∀ g, bo = some g → w.heap.size ≤ g := by
  obtain ⟨i0, hi, hz, hz1, hz2⟩ := info_parts i64_info
  have HI := Lib.hid hi
  have HZ := Lib.hid hz
  have HZ1 := Lib.hid hz1
  have HZ2 := Lib.hid hz2
  clear hi hz hz1 hz2
  obtain ⟨a, cap, rfl, c1, c2, hcell⟩ := hl.cell
  have HCELL := Lib.hid hcell
  clear hcell
  have HU := Lib.hid hu
  have HL := Lib.hid hl
  have HM := Lib.hid hμ
  clear hu hl hμ
  have hty : (slen (.slice none 0 0)) = 0 := rfl
  cases b
  · simp only [atv]
    unfold Mp.ptr
    go_enter Try.func91, Try.ntmps91
    go_wp2
    refine wp_scope_again 0 (WalkJ w (.func (.func 86) #[.pointer (some ⟨μ.m, 0, none⟩)] #[]) (lk μ false) l a cap head most) (fun a' _ => most.toNat - slen (a'.tmps.getD 9 undef)) rfl ?_ ?_
    · rintro a' W ⟨place, out, v, bo, u1, u4, u5, u6, u7, u8, u11, u12, u13, u14, u15, u16, u17, u18, u19, u20, u21, u22, u23, u24, u25, u26, u27, u28, u29, u30, u31, u32, u33, u34, u35, u36, u37, u38, u39, u40, u41, u42, rfl, hlen, hS, hout, hE, hfr⟩
      obtain ⟨va, vc, rfl⟩ := hS.form
      have hM := HM.out.ext0 hE
      by_cases hc : 0 ≤ place ∧ place < l.length
      · obtain ⟨p0, p1⟩ := hc
        obtain ⟨bl, off, rfl, hce⟩ := HCELL.out place p0 p1
        obtain ⟨u0, u1⟩ := HU.out.ld place
        have hlt : bl < w.heap.size := World.block_lt_of_cell? w _ hce
        have hce2 := (World.cell?_of_block (w := w) (hE.same bl hlt (by simp))).trans hce
        clear hce
        have HOUT := Lib.hid hout
        clear hout
        by_cases hm1 : (out.length : Int) < most
        · have hstep : walkM (lk μ false) l (most.toNat - out.length) place = if wLo (ld l place) ≠ 0 then wLo (ld l place) :: walkM (lk μ false) l (most.toNat - (out.length + 1)) (lk μ false (wLo (ld l place))) else [] := by
            have e : most.toNat - out.length = (most.toNat - (out.length + 1)) + 1 := by omega
            rw [e]
            simp only [walkM, p0, p1, true_and]
          have HST := Lib.hid hstep
          clear hstep
          have hq0 : 0 ≤ ld l place % 4294967296 := by omega
          have hq1 : ld l place % 4294967296 < 4294967296 := by omega
          unfold wLo at HST
          generalize ld l place = q0 at u0 u1 hce2 HST hq0 hq1
          by_cases hz : q0 % 4294967296 = 0
          · have hzb : (q0 % 4294967296 != 0) = false := by rw [hz]; rfl
            go_wp2
            try (simp only [Exit.jump]; change bodyPost _ _ _ _ _ _)
            go_ret
            refine ⟨_, bo, out.length, rfl, ?_, hE, hfr⟩
            rw [← HOUT.out, HST.out, if_neg (by simpa using hz), List.append_nil]
            exact hS
          · have hzb : (q0 % 4294967296 != 0) = true := by rw [bne_iff_ne]; exact hz
            have hbv : ∀ x, bo = some x → x ≠ bl := fun x hx e => by have := hfr x hx; omega
            have HLK := Lib.hid (fun W (hW : IsMap W μ) => Next_c hW (q0 % 4294967296))
            have hM2 := hM
            go_wp2_with (first | (at_builtin; refine wpList_append_sl _ rfl (.tmp 35) (.tmp 37) 55 55 rfl 3 i0 (.int .i64 0) 1 8 i64_slice HI.out HZ.out HZ1.out HZ2.out rfl (by decide) (hS.ext ((Ext.refl [] _).alloc _) (by simp)) 1 [.int .i64 (q0 % 4294967296)] ((Blk.new _ _ _).src1 i64_slice rfl) (by unfold maxLen; omega) (by omega) ?_; intro v' b' w5 hsl5 he5 hb5; have hE5 := (hE.alloc (.cells #[.int .i64 (q0 % 4294967296)] 3)).ofOpt he5 hfr; have hM5 := HM.out.ext0 hE5; have hfr5 : ∀ g, b' = some g → w.heap.size ≤ g := fun g hg => by { rcases hb5 with h | h <;> first | exact hfr g (h ▸ hg) | (rw [h] at hg; cases hg; have := hE.size; simp only [World.size_alloc]; omega) }) | (go_at_call 86; refine (HLK.out _ hM5).mono ?_; rintro e w6 ⟨rfl, rfl⟩))
            obtain ⟨va', vc', rfl⟩ := hsl5.form
            go_step3
            try simp only [Exit.jump]
            refine ⟨rfl, ⟨lk μ false (q0 % 4294967296), out ++ [q0 % 4294967296], _, b', _, _, _, _, _, _, _, _, _, _, _, _, _, _, _, _, _, _, _, _, _, _, _, _, _, _, _, _, _, _, _, _, _, _, _, _, _, _, rfl, ?_, ?_, ?_, hE5, hfr5⟩, ?_⟩
            · simp only [List.length_append, List.length_cons, List.length_nil]; omega
            · simpa [i64s] using hsl5
            · rw [List.append_assoc, ← HOUT.out, HST.out, if_pos hz]
              simp
            all_goals (simp [slen]; omega)
        · have hstep : walkM (lk μ false) l (most.toNat - out.length) place = [] := by
            have e : most.toNat - out.length = 0 := by omega
            rw [e]
            rfl
          go_wp2
          try (simp only [Exit.jump]; change bodyPost _ _ _ _ _ _)
          go_ret
          refine ⟨_, bo, out.length, rfl, ?_, hE, hfr⟩
          rw [← HOUT.out, hstep, List.append_nil]
          exact hS
      · have hstep : walkM (lk μ false) l (most.toNat - out.length) place = [] := by
          cases most.toNat - out.length with
          | zero => rfl
          | succ k => simp only [walkM]; rw [if_neg (fun h => hc ⟨h.1, h.2.1⟩)]
        have HST := Lib.hid hstep
        have HOUT := Lib.hid hout
        clear hstep hout
        by_cases hc0 : 0 ≤ place
        · have hc1 : (l.length : Int) ≤ place := by omega
          clear hc
          go_wp2
          try (simp only [Exit.jump]; change bodyPost _ _ _ _ _ _)
          go_ret
          refine ⟨_, bo, out.length, rfl, ?_, hE, hfr⟩
          rw [← HOUT.out, HST.out, List.append_nil]
          exact hS
        · clear hc
          go_wp2
          try (simp only [Exit.jump]; change bodyPost _ _ _ _ _ _)
          go_ret
          refine ⟨_, bo, out.length, rfl, ?_, hE, hfr⟩
          rw [← HOUT.out, HST.out, List.append_nil]
          exact hS
    · intro hrest
      clear hrest
      go_wp2
      go_step3
      obtain ⟨place, hplace⟩ : ∃ p, p = head := ⟨_, rfl⟩
      obtain ⟨out, ho⟩ : ∃ o : List Int, o = [] := ⟨_, rfl⟩
      obtain ⟨va, hva⟩ : ∃ va : Option Addr, va = none := ⟨_, rfl⟩
      obtain ⟨vc, hvc⟩ : ∃ vc : Nat, vc = 0 := ⟨_, rfl⟩
      obtain ⟨bo, hbo⟩ : ∃ bo : Option Nat, bo = none := ⟨_, rfl⟩
      have e0 : Value.slice none 0 0 = .slice va out.length vc := by rw [ho, hva, hvc]; rfl
      rw [e0, ← hplace]
      have hlen : (out.length : Int) ≤ max most 0 := by rw [ho]; simp; omega
      have hS : Sl w 3 1 bo (.slice va out.length vc) out.length (i64s out) := by rw [ho, hbo, hva, hvc]; exact Sl.nil _ _ _
      have hout : out ++ walkM (lk μ false) l (most.toNat - out.length) place = walkM (lk μ false) l most.toNat head := by rw [ho, hplace]; simp
      have hE : Ext [] w w := Ext.refl _ _
      have hfr : ∀ g, bo = some g → w.heap.size ≤ g := by rw [hbo]; simp
      clear e0 ho hva hvc hbo hplace
      have hM := HM.out.ext0 hE
      by_cases hc : 0 ≤ place ∧ place < l.length
      · obtain ⟨p0, p1⟩ := hc
        obtain ⟨bl, off, rfl, hce⟩ := HCELL.out place p0 p1
        obtain ⟨u0, u1⟩ := HU.out.ld place
        have hlt : bl < w.heap.size := World.block_lt_of_cell? w _ hce
        have hce2 := (World.cell?_of_block (w := w) (hE.same bl hlt (by simp))).trans hce
        clear hce
        have HOUT := Lib.hid hout
        clear hout
        by_cases hm1 : (out.length : Int) < most
        · have hstep : walkM (lk μ false) l (most.toNat - out.length) place = if wLo (ld l place) ≠ 0 then wLo (ld l place) :: walkM (lk μ false) l (most.toNat - (out.length + 1)) (lk μ false (wLo (ld l place))) else [] := by
            have e : most.toNat - out.length = (most.toNat - (out.length + 1)) + 1 := by omega
            rw [e]
            simp only [walkM, p0, p1, true_and]
          have HST := Lib.hid hstep
          clear hstep
          have hq0 : 0 ≤ ld l place % 4294967296 := by omega
          have hq1 : ld l place % 4294967296 < 4294967296 := by omega
          unfold wLo at HST
          generalize ld l place = q0 at u0 u1 hce2 HST hq0 hq1
          by_cases hz : q0 % 4294967296 = 0
          · have hzb : (q0 % 4294967296 != 0) = false := by rw [hz]; rfl
            go_wp2
            try (simp only [Exit.jump]; change bodyPost _ _ _ _ _ _)
            go_ret
            refine ⟨_, bo, out.length, rfl, ?_, hE, hfr⟩
            rw [← HOUT.out, HST.out, if_neg (by simpa using hz), List.append_nil]
            exact hS
          · have hzb : (q0 % 4294967296 != 0) = true := by rw [bne_iff_ne]; exact hz
            have hbv : ∀ x, bo = some x → x ≠ bl := fun x hx e => by have := hfr x hx; omega
            have HLK := Lib.hid (fun W (hW : IsMap W μ) => Next_c hW (q0 % 4294967296))
            have hM2 := hM
            go_wp2_with (first | (at_builtin; refine wpList_append_sl _ rfl (.tmp 35) (.tmp 37) 55 55 rfl 3 i0 (.int .i64 0) 1 8 i64_slice HI.out HZ.out HZ1.out HZ2.out rfl (by decide) (hS.ext ((Ext.refl [] _).alloc _) (by simp)) 1 [.int .i64 (q0 % 4294967296)] ((Blk.new _ _ _).src1 i64_slice rfl) (by unfold maxLen; omega) (by omega) ?_; intro v' b' w5 hsl5 he5 hb5; have hE5 := (hE.alloc (.cells #[.int .i64 (q0 % 4294967296)] 3)).ofOpt he5 hfr; have hM5 := HM.out.ext0 hE5; have hfr5 : ∀ g, b' = some g → w.heap.size ≤ g := fun g hg => by { rcases hb5 with h | h <;> first | exact hfr g (h ▸ hg) | (rw [h] at hg; cases hg; have := hE.size; simp only [World.size_alloc]; omega) }) | (go_at_call 86; refine (HLK.out _ hM5).mono ?_; rintro e w6 ⟨rfl, rfl⟩))
            obtain ⟨va', vc', rfl⟩ := hsl5.form
            go_step3
            try simp only [Exit.jump]
            refine ⟨rfl, lk μ false (q0 % 4294967296), out ++ [q0 % 4294967296], _, b', _, _, _, _, _, _, _, _, _, _, _, _, _, _, _, _, _, _, _, _, _, _, _, _, _, _, _, _, _, _, _, _, _, _, _, _, _, _, rfl, ?_, ?_, ?_, hE5, hfr5⟩
            · simp only [List.length_append, List.length_cons, List.length_nil]; omega
            · simpa [i64s] using hsl5
            · rw [List.append_assoc, ← HOUT.out, HST.out, if_pos hz]
              simp
            all_goals (simp [slen]; omega)
        · have hstep : walkM (lk μ false) l (most.toNat - out.length) place = [] := by
            have e : most.toNat - out.length = 0 := by omega
            rw [e]
            rfl
          go_wp2
          try (simp only [Exit.jump]; change bodyPost _ _ _ _ _ _)
          go_ret
          refine ⟨_, bo, out.length, rfl, ?_, hE, hfr⟩
          rw [← HOUT.out, hstep, List.append_nil]
          exact hS
      · have hstep : walkM (lk μ false) l (most.toNat - out.length) place = [] := by
          cases most.toNat - out.length with
          | zero => rfl
          | succ k => simp only [walkM]; rw [if_neg (fun h => hc ⟨h.1, h.2.1⟩)]
        have HST := Lib.hid hstep
        have HOUT := Lib.hid hout
        clear hstep hout
        by_cases hc0 : 0 ≤ place
        · have hc1 : (l.length : Int) ≤ place := by omega
          clear hc
          go_wp2
          try (simp only [Exit.jump]; change bodyPost _ _ _ _ _ _)
          go_ret
          refine ⟨_, bo, out.length, rfl, ?_, hE, hfr⟩
          rw [← HOUT.out, HST.out, List.append_nil]
          exact hS
        · clear hc
          go_wp2
          try (simp only [Exit.jump]; change bodyPost _ _ _ _ _ _)
          go_ret
          refine ⟨_, bo, out.length, rfl, ?_, hE, hfr⟩
          rw [← HOUT.out, HST.out, List.append_nil]
          exact hS
  · simp only [atv]
    unfold Mp.ptr
    go_enter Try.func91, Try.ntmps91
    go_wp2
    refine wp_scope_again 0 (WalkJ w (.func (.func 81) #[.pointer (some ⟨μ.m, 0, none⟩)] #[]) (lk μ true) l a cap head most) (fun a' _ => most.toNat - slen (a'.tmps.getD 9 undef)) rfl ?_ ?_
    · rintro a' W ⟨place, out, v, bo, u1, u4, u5, u6, u7, u8, u11, u12, u13, u14, u15, u16, u17, u18, u19, u20, u21, u22, u23, u24, u25, u26, u27, u28, u29, u30, u31, u32, u33, u34, u35, u36, u37, u38, u39, u40, u41, u42, rfl, hlen, hS, hout, hE, hfr⟩
      obtain ⟨va, vc, rfl⟩ := hS.form
      have hM := HM.out.ext0 hE
      by_cases hc : 0 ≤ place ∧ place < l.length
      · obtain ⟨p0, p1⟩ := hc
        obtain ⟨bl, off, rfl, hce⟩ := HCELL.out place p0 p1
        obtain ⟨u0, u1⟩ := HU.out.ld place
        have hlt : bl < w.heap.size := World.block_lt_of_cell? w _ hce
        have hce2 := (World.cell?_of_block (w := w) (hE.same bl hlt (by simp))).trans hce
        clear hce
        have HOUT := Lib.hid hout
        clear hout
        by_cases hm1 : (out.length : Int) < most
        · have hstep : walkM (lk μ true) l (most.toNat - out.length) place = if wLo (ld l place) ≠ 0 then wLo (ld l place) :: walkM (lk μ true) l (most.toNat - (out.length + 1)) (lk μ true (wLo (ld l place))) else [] := by
            have e : most.toNat - out.length = (most.toNat - (out.length + 1)) + 1 := by omega
            rw [e]
            simp only [walkM, p0, p1, true_and]
          have HST := Lib.hid hstep
          clear hstep
          have hq0 : 0 ≤ ld l place % 4294967296 := by omega
          have hq1 : ld l place % 4294967296 < 4294967296 := by omega
          unfold wLo at HST
          generalize ld l place = q0 at u0 u1 hce2 HST hq0 hq1
          by_cases hz : q0 % 4294967296 = 0
          · have hzb : (q0 % 4294967296 != 0) = false := by rw [hz]; rfl
            go_wp2
            try (simp only [Exit.jump]; change bodyPost _ _ _ _ _ _)
            go_ret
            refine ⟨_, bo, out.length, rfl, ?_, hE, hfr⟩
            rw [← HOUT.out, HST.out, if_neg (by simpa using hz), List.append_nil]
            exact hS
          · have hzb : (q0 % 4294967296 != 0) = true := by rw [bne_iff_ne]; exact hz
            have hbv : ∀ x, bo = some x → x ≠ bl := fun x hx e => by have := hfr x hx; omega
            have HLK := Lib.hid (fun W (hW : IsMap W μ) => Link_c hW (q0 % 4294967296))
            have hM2 := hM
            go_wp2_with (first | (at_builtin; refine wpList_append_sl _ rfl (.tmp 35) (.tmp 37) 55 55 rfl 3 i0 (.int .i64 0) 1 8 i64_slice HI.out HZ.out HZ1.out HZ2.out rfl (by decide) (hS.ext ((Ext.refl [] _).alloc _) (by simp)) 1 [.int .i64 (q0 % 4294967296)] ((Blk.new _ _ _).src1 i64_slice rfl) (by unfold maxLen; omega) (by omega) ?_; intro v' b' w5 hsl5 he5 hb5; have hE5 := (hE.alloc (.cells #[.int .i64 (q0 % 4294967296)] 3)).ofOpt he5 hfr; have hM5 := HM.out.ext0 hE5; have hfr5 : ∀ g, b' = some g → w.heap.size ≤ g := fun g hg => by { rcases hb5 with h | h <;> first | exact hfr g (h ▸ hg) | (rw [h] at hg; cases hg; have := hE.size; simp only [World.size_alloc]; omega) }) | (go_at_call 81; refine (HLK.out _ hM5).mono ?_; rintro e w6 ⟨rfl, rfl⟩))
            obtain ⟨va', vc', rfl⟩ := hsl5.form
            go_step3
            try simp only [Exit.jump]
            refine ⟨rfl, ⟨lk μ true (q0 % 4294967296), out ++ [q0 % 4294967296], _, b', _, _, _, _, _, _, _, _, _, _, _, _, _, _, _, _, _, _, _, _, _, _, _, _, _, _, _, _, _, _, _, _, _, _, _, _, _, _, rfl, ?_, ?_, ?_, hE5, hfr5⟩, ?_⟩
            · simp only [List.length_append, List.length_cons, List.length_nil]; omega
            · simpa [i64s] using hsl5
            · rw [List.append_assoc, ← HOUT.out, HST.out, if_pos hz]
              simp
            all_goals (simp [slen]; omega)
        · have hstep : walkM (lk μ true) l (most.toNat - out.length) place = [] := by
            have e : most.toNat - out.length = 0 := by omega
            rw [e]
            rfl
          go_wp2
          try (simp only [Exit.jump]; change bodyPost _ _ _ _ _ _)
          go_ret
          refine ⟨_, bo, out.length, rfl, ?_, hE, hfr⟩
          rw [← HOUT.out, hstep, List.append_nil]
          exact hS
      · have hstep : walkM (lk μ true) l (most.toNat - out.length) place = [] := by
          cases most.toNat - out.length with
          | zero => rfl
          | succ k => simp only [walkM]; rw [if_neg (fun h => hc ⟨h.1, h.2.1⟩)]
        have HST := Lib.hid hstep
        have HOUT := Lib.hid hout
        clear hstep hout
        by_cases hc0 : 0 ≤ place
        · have hc1 : (l.length : Int) ≤ place := by omega
          clear hc
          go_wp2
          try (simp only [Exit.jump]; change bodyPost _ _ _ _ _ _)
          go_ret
          refine ⟨_, bo, out.length, rfl, ?_, hE, hfr⟩
          rw [← HOUT.out, HST.out, List.append_nil]
          exact hS
        · clear hc
          go_wp2
          try (simp only [Exit.jump]; change bodyPost _ _ _ _ _ _)
          go_ret
          refine ⟨_, bo, out.length, rfl, ?_, hE, hfr⟩
          rw [← HOUT.out, HST.out, List.append_nil]
          exact hS
    · intro hrest
      clear hrest
      go_wp2
      go_step3
      obtain ⟨place, hplace⟩ : ∃ p, p = head := ⟨_, rfl⟩
      obtain ⟨out, ho⟩ : ∃ o : List Int, o = [] := ⟨_, rfl⟩
      obtain ⟨va, hva⟩ : ∃ va : Option Addr, va = none := ⟨_, rfl⟩
      obtain ⟨vc, hvc⟩ : ∃ vc : Nat, vc = 0 := ⟨_, rfl⟩
      obtain ⟨bo, hbo⟩ : ∃ bo : Option Nat, bo = none := ⟨_, rfl⟩
      have e0 : Value.slice none 0 0 = .slice va out.length vc := by rw [ho, hva, hvc]; rfl
      rw [e0, ← hplace]
      have hlen : (out.length : Int) ≤ max most 0 := by rw [ho]; simp; omega
      have hS : Sl w 3 1 bo (.slice va out.length vc) out.length (i64s out) := by rw [ho, hbo, hva, hvc]; exact Sl.nil _ _ _
      have hout : out ++ walkM (lk μ true) l (most.toNat - out.length) place = walkM (lk μ true) l most.toNat head := by rw [ho, hplace]; simp
      have hE : Ext [] w w := Ext.refl _ _
      have hfr : ∀ g, bo = some g → w.heap.size ≤ g := by rw [hbo]; simp
      clear e0 ho hva hvc hbo hplace
      have hM := HM.out.ext0 hE
      by_cases hc : 0 ≤ place ∧ place < l.length
      · obtain ⟨p0, p1⟩ := hc
        obtain ⟨bl, off, rfl, hce⟩ := HCELL.out place p0 p1
        obtain ⟨u0, u1⟩ := HU.out.ld place
        have hlt : bl < w.heap.size := World.block_lt_of_cell? w _ hce
        have hce2 := (World.cell?_of_block (w := w) (hE.same bl hlt (by simp))).trans hce
        clear hce
        have HOUT := Lib.hid hout
        clear hout
        by_cases hm1 : (out.length : Int) < most
        · have hstep : walkM (lk μ true) l (most.toNat - out.length) place = if wLo (ld l place) ≠ 0 then wLo (ld l place) :: walkM (lk μ true) l (most.toNat - (out.length + 1)) (lk μ true (wLo (ld l place))) else [] := by
            have e : most.toNat - out.length = (most.toNat - (out.length + 1)) + 1 := by omega
            rw [e]
            simp only [walkM, p0, p1, true_and]
          have HST := Lib.hid hstep
          clear hstep
          have hq0 : 0 ≤ ld l place % 4294967296 := by omega
          have hq1 : ld l place % 4294967296 < 4294967296 := by omega
          unfold wLo at HST
          generalize ld l place = q0 at u0 u1 hce2 HST hq0 hq1
          by_cases hz : q0 % 4294967296 = 0
          · have hzb : (q0 % 4294967296 != 0) = false := by rw [hz]; rfl
            go_wp2
            try (simp only [Exit.jump]; change bodyPost _ _ _ _ _ _)
            go_ret
            refine ⟨_, bo, out.length, rfl, ?_, hE, hfr⟩
            rw [← HOUT.out, HST.out, if_neg (by simpa using hz), List.append_nil]
            exact hS
          · have hzb : (q0 % 4294967296 != 0) = true := by rw [bne_iff_ne]; exact hz
            have hbv : ∀ x, bo = some x → x ≠ bl := fun x hx e => by have := hfr x hx; omega
            have HLK := Lib.hid (fun W (hW : IsMap W μ) => Link_c hW (q0 % 4294967296))
            have hM2 := hM
            go_wp2_with (first | (at_builtin; refine wpList_append_sl _ rfl (.tmp 35) (.tmp 37) 55 55 rfl 3 i0 (.int .i64 0) 1 8 i64_slice HI.out HZ.out HZ1.out HZ2.out rfl (by decide) (hS.ext ((Ext.refl [] _).alloc _) (by simp)) 1 [.int .i64 (q0 % 4294967296)] ((Blk.new _ _ _).src1 i64_slice rfl) (by unfold maxLen; omega) (by omega) ?_; intro v' b' w5 hsl5 he5 hb5; have hE5 := (hE.alloc (.cells #[.int .i64 (q0 % 4294967296)] 3)).ofOpt he5 hfr; have hM5 := HM.out.ext0 hE5; have hfr5 : ∀ g, b' = some g → w.heap.size ≤ g := fun g hg => by { rcases hb5 with h | h <;> first | exact hfr g (h ▸ hg) | (rw [h] at hg; cases hg; have := hE.size; simp only [World.size_alloc]; omega) }) | (go_at_call 81; refine (HLK.out _ hM5).mono ?_; rintro e w6 ⟨rfl, rfl⟩))
            obtain ⟨va', vc', rfl⟩ := hsl5.form
            go_step3
            try simp only [Exit.jump]
            refine ⟨rfl, lk μ true (q0 % 4294967296), out ++ [q0 % 4294967296], _, b', _, _, _, _, _, _, _, _, _, _, _, _, _, _, _, _, _, _, _, _, _, _, _, _, _, _, _, _, _, _, _, _, _, _, _, _, _, _, rfl, ?_, ?_, ?_, hE5, hfr5⟩
            · simp only [List.length_append, List.length_cons, List.length_nil]; omega
            · simpa [i64s] using hsl5
            · rw [List.append_assoc, ← HOUT.out, HST.out, if_pos hz]
              simp
            all_goals (simp [slen]; omega)
        · have hstep : walkM (lk μ true) l (most.toNat - out.length) place = [] := by
            have e : most.toNat - out.length = 0 := by omega
            rw [e]
            rfl
          go_wp2
          try (simp only [Exit.jump]; change bodyPost _ _ _ _ _ _)
          go_ret
          refine ⟨_, bo, out.length, rfl, ?_, hE, hfr⟩
          rw [← HOUT.out, hstep, List.append_nil]
          exact hS
      · have hstep : walkM (lk μ true) l (most.toNat - out.length) place = [] := by
          cases most.toNat - out.length with
          | zero => rfl
          | succ k => simp only [walkM]; rw [if_neg (fun h => hc ⟨h.1, h.2.1⟩)]
        have HST := Lib.hid hstep
        have HOUT := Lib.hid hout
        clear hstep hout
        by_cases hc0 : 0 ≤ place
        · have hc1 : (l.length : Int) ≤ place := by omega
          clear hc
          go_wp2
          try (simp only [Exit.jump]; change bodyPost _ _ _ _ _ _)
          go_ret
          refine ⟨_, bo, out.length, rfl, ?_, hE, hfr⟩
          rw [← HOUT.out, HST.out, List.append_nil]
          exact hS
        · clear hc
          go_wp2
          try (simp only [Exit.jump]; change bodyPost _ _ _ _ _ _)
          go_ret
          refine ⟨_, bo, out.length, rfl, ?_, hE, hfr⟩
          rw [← HOUT.out, HST.out, List.append_nil]
          exact hS
end
end Go.Proofs.Ytcgnficlcgmffaa
