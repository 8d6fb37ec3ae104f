/-
  layout.New: a map that is made.
-/
import Derived.Deep.LoopGhost
import Derived.Handy
import Derived.Test.YtcgnficlcgmffaaDraws
import Derived.Test.YtcgnficlcgmffaaSlice
import Derived.Test.YtcgnficlcgmffaaSizes
import Derived.Test.YtcgnficlcgmffaaPacketNew
namespace Go.Proofs.Ytcgnficlcgmffaa
open Go.RowKit

theorem i64_slice : Try.prog.underlying 55 = some (.slice 3) := by kernel_rfl
theorem i64_info : (Try.prog.info? 3).map (fun i => (i.zero, i.size, i.bytes)) = some (some (.int .i64 0), 1, 8) := by kernel_rfl

/-- A map that is being made: its numbers so far. -/
def mkCells (c : Cfg) (ack head deques packets node0 nodes many parts all : Int) (av rv : Value) : List Value :=
  [.int .i64 ack, .int .i64 head, .int .i64 deques, .int .i64 packets, .int .i64 node0, .int .i64 nodes, .int .i64 many, .int .i64 parts, .int .i64 all,
   .int .i64 c.c0, .int .i64 c.c1, .int .i64 c.c2, .int .i64 c.c3, .int .i64 c.c4, .int .i64 c.markers, .int .i64 c.mutators, .int .i64 c.deque, .int .i64 c.chunk, .int .i64 c.buffer, .int .i64 c.roots, .int .i64 c.sweep, av, rv]
structure NewRel (c : Cfg) (n : Int) (w : World) (x bx k : Nat) (W : World) : Prop where
  ex : ∃ rv rb, Blk W x (mkCells c 0 0 0 0 0 n (c.base + c.pieces k) 0 0 (.slice none 0 0) rv) 111 ∧ Sl W 3 1 rb rv k (i64s (c.rooms k)) ∧ ∀ g, rb = some g → g ≠ x ∧ g ≠ bx ∧ w.heap.size ≤ g
  bx : Blk W bx c.vals 24
  ext : Ext [] w W
structure AtRel (c : Cfg) (n d q N f M : Int) (k : Nat) (r0 : Option Addr) (rc : Nat) (w : World) (x rg : Nat) (rs : List Value) (j : Nat) (W : World) : Prop where
  ex : ∃ av ab, Blk W x (mkCells c 6 (6 + c.mutators) d q N n M f (N + 4 * j + ((c.rooms k).take j).sum) av (.slice r0 k rc)) 111 ∧ Sl W 3 1 ab av j (i64s (ats N ((c.rooms k).take j))) ∧ ∀ g, ab = some g → g ≠ x ∧ g ≠ rg ∧ w.heap.size ≤ g
  hr : Blk W rg (i64s (c.rooms k) ++ rs) 3
  ext : Ext [] w W
theorem i64s_append (l m : List Int) : i64s (l ++ m) = i64s l ++ i64s m := by simp [i64s]
theorem i64s_one (l : List Int) : ∀ u ∈ i64s l, u.oneCell' = true := by
  intro u hu
  obtain ⟨x, _, rfl⟩ := List.mem_map.1 hu
  rfl

def NewPost (c : Cfg) (w : World) (e : Ending) (w' : World) : Prop :=
  ∃ μ : Mp, e = .returned (.tuple #[μ.ptr, .int .i64 0]) ∧ μ.L = c.lay ∧ IsMap w' μ ∧ Ext [] w w' ∧ w.heap.size ≤ μ.m ∧ w.heap.size ≤ μ.ab ∧ w.heap.size ≤ μ.rb

set_option maxRecDepth 100000 in
set_option maxHeartbeats 4000000 in
theorem New_t (c : Cfg) (h : c.Ok) (w : World) : Calls Try.prog 14 #[.agg c.vals.toArray] w (NewPost c w) := by
  have HK := Lib.hid (fun W => Check_c c h W)
  have HN := Lib.hid (fun W => SNodes_c c h.cells W)
  have HC := Lib.hid (fun v W hv => SClass_c c h.cells v W hv)
  have hB0 : Blk (w.alloc (.cells c.vals.toArray 24)) w.heap.size c.vals 24 := Blk.new _ _ _
  have hM0 := fun (W : World) => Blk.new W (mkCells c 0 0 0 0 0 0 0 0 0 (.slice none 0 0) (.slice none 0 0)) 111
  have HM0 := Lib.hid hM0
  clear hM0
  obtain ⟨m1, m2⟩ := h.markers
  obtain ⟨m3, m4⟩ := h.mutators
  have hn1 := h.some
  have hn2 : c.nodes ≤ 60 := by have := h.cells; obtain ⟨a, b, d, e, f⟩ := this; unfold Cfg.nodes; omega
  generalize hn : c.nodes = n at hn1 hn2 HN
  have HNN := Lib.hid hn
  clear hn
  have hbase : c.base = n + 2 * c.markers + c.mutators := by unfold Cfg.base; rw [HNN.out]
  have HBASE := Lib.hid hbase
  clear hbase
  obtain ⟨c0, c1, c2, c3, c4, x1, x2, x3, x4, x5, x6, x7⟩ := c
  simp only [Cfg.vals, Cfg.arr, mkCells] at HK HN HC hB0 HM0 m1 m2 m3 m4 ⊢
  go_enter Try.func14, Try.ntmps14
  go_wp2_with (first | (go_at_call 75; refine (HK.out _).mono ?_; rintro e w1 ⟨rfl, he1⟩; have hb1 := hB0.ext he1 (by simp); have hcb := hb1.cells; have hfb := hb1.free; have hl1 := hb1.lt; clear hB0) | (go_at_call 76; refine (HN.out _).mono ?_; rintro e w2 ⟨rfl, he2⟩; have hb2 := (hb1.alloc _).ext he2 (by simp); have hx2 := (HM0.out w1).ext he2 (by simp); have hcb2 := hb2.cells; have hcx2 := hx2.cells; have hfx2 := hx2.free; clear hcb hfb))
  go_wp2_with fail
  refine wp_region_rg [0, 0, 0, 0, 0, 0, 0, 0, 0, 0, 0, 0, 0, 0, 0, 0, 2] (by kernel_rfl) (by kernel_rfl) ?_
  repeat (first | (with_reducible refine wpH_tail ?_) | ((with_reducible refine wpH_float (fun K hK => ?_)); go_simp; refine hK _ ?_; clear hK K) | ((with_reducible refine wpH_near (fun K hK => ?_)); go_simp; first | (refine hK _ ?_; clear hK K) | (apply Exists.intro; refine ⟨fun _ => ?_, hK _ ?_⟩; (fail); clear hK K)))
  refine wpH_nil ?_
  rintro _ ⟨nq, rfl⟩
  simp only [rgTailOps, Nat.reduceEqDiff, if_true, if_false]
  go_wp2_with (with_reducible refine NoPanic.normal ?_)
  have hwx : w.heap.size ≤ w1.heap.size := by omega
  have hxne : w1.heap.size ≠ w.heap.size := by omega
  have hE2 : Ext [] w w2 := ((((Ext.refl [] w).alloc _).trans he1 (by simp)).alloc _).trans he2 (by simp)
  have hX0 := ((hx2.set 5 (.int .i64 n)).drewN nq).set 6 (.int .i64 (n + 2 * x1 + x2))
  have hB1 := ((hb2.set_ne (p := ⟨w1.heap.size, 5, none⟩) (.int .i64 n) hxne).drewN nq).set_ne (p := ⟨w1.heap.size, 6, none⟩) (.int .i64 (n + 2 * x1 + x2)) hxne
  have hE3 := ((hE2.setCell ⟨w1.heap.size, 5, none⟩ (.int .i64 n) (.inr hwx)).drewN nq).setCell ⟨w1.heap.size, 6, none⟩ (.int .i64 (n + 2 * x1 + x2)) (.inr hwx)
  clear hcb2 hcx2 hfx2 hb1 hb2 hx2
  generalize w1.heap.size = x at *
  generalize hbx : w.heap.size = bx at *
  have hwx' : w.heap.size ≤ x := hbx ▸ hwx
  have HBX := Lib.hid hbx
  clear hbx
  go_unwrap
  go_loopg [6] n.toNat (fun g v wr => ∃ k : Nat, v = .int .i64 ((k : Int) + 1) ∧ g + k = n.toNat ∧ NewRel ⟨c0, c1, c2, c3, c4, x1, x2, x3, x4, x5, x6, x7⟩ n w x bx k wr)
  case atStart =>
    refine ⟨0, by simp, by omega, ⟨⟨_, none, ?_, Sl.nil _ _ _, by simp⟩, hB1, hE3⟩⟩
    refine hX0.congr ?_
    rw [HBASE.out]
    simp [mkCells, Cfg.pieces, Cfg.rooms]
  case round =>
    obtain ⟨k, rfl, hgk, ⟨⟨rv, rb, hX, hS, hfr⟩, hBx, hE⟩⟩ := hrel
    have hch : 1 ≤ x4 ∧ x4 ≤ 16 := h.chunk
    have hsw : 1 ≤ x7 ∧ x7 ≤ 16 := h.sweep
    have hdq : 2 ≤ x3 ∧ x3 ≤ 8 := h.deque
    have hpr := Cfg.pieces_range ⟨c0, c1, c2, c3, c4, x1, x2, x3, x4, x5, x6, x7⟩ hch.1 k
    obtain ⟨ra, rc, rfl⟩ := hS.form
    have HCk := Lib.hid (fun W => HC.out ((k : Int) + 1) W (by omega))
    have hsl := slotsOf_range (Cfg.classOf ⟨c0, c1, c2, c3, c4, x1, x2, x3, x4, x5, x6, x7⟩ ((k : Int) + 1))
    have hSs := Cfg.rooms_succ ⟨c0, c1, c2, c3, c4, x1, x2, x3, x4, x5, x6, x7⟩ k
    have hPs := Cfg.pieces_succ ⟨c0, c1, c2, c3, c4, x1, x2, x3, x4, x5, x6, x7⟩ k
    have HSL := Lib.hid (Slots_c (Cfg.classOf ⟨c0, c1, c2, c3, c4, x1, x2, x3, x4, x5, x6, x7⟩ ((k : Int) + 1)))
    generalize Cfg.classOf ⟨c0, c1, c2, c3, c4, x1, x2, x3, x4, x5, x6, x7⟩ ((k : Int) + 1) = cl at HCk hsl hSs hPs HSL
    generalize slotsOf cl = r at hsl hSs hPs HSL
    have HSs := Lib.hid hSs
    have HPs := Lib.hid hPs
    clear hSs hPs
    rw [HBASE.out] at hX
    obtain ⟨p, hp⟩ : ∃ p, p = Cfg.pieces ⟨c0, c1, c2, c3, c4, x1, x2, x3, x4, x5, x6, x7⟩ k := ⟨_, rfl⟩
    rw [← hp] at hX hpr
    have HP := Lib.hid hp
    clear hp
    simp only [mkCells, Cfg.vals] at hX hBx
    have hcX := hX.cells
    have hfX := hX.free
    have hcB := hBx.cells
    obtain ⟨pr0, pr1⟩ := hpr
    obtain ⟨r0, r1⟩ := hsl
    obtain ⟨q0, q1⟩ := hch
    have hx4 : (x4 == 0) = false := by rw [beq_eq_false_iff_ne]; omega
    have hx4' : ¬ x4 = 0 := by omega
    obtain ⟨d, hdd⟩ : ∃ d, d = (r + x4 - 1) / x4 := ⟨_, rfl⟩
    have hd : (r + x4 - 1).tdiv x4 = d := by rw [hdd]; exact Int.tdiv_eq_ediv_of_nonneg (by omega)
    have hd0 : 0 ≤ d := by rw [hdd]; exact Int.ediv_nonneg (by omega) (by omega)
    have hd1 : d ≤ 16 := by
      have h3 := Int.ediv_le_ediv (by omega : 0 < x4) (by omega : r + x4 - 1 ≤ 16 * x4)
      rw [Int.mul_ediv_cancel _ (by omega), ← hdd] at h3
      exact h3
    have HD := Lib.hid hdd
    clear hdd
    obtain ⟨i0, hi, hz, hz1, hz2⟩ := info_parts i64_info
    have HI := Lib.hid hi
    have HZ := Lib.hid hz
    have HZ1 := Lib.hid hz1
    have HZ2 := Lib.hid hz2
    clear hi hz hz1 hz2
    have hk60 : k ≤ 60 := by omega
    have hnx : x ∉ rb.toList := nmem_toList fun g hg => (hfr g hg).1
    have hnb : bx ∉ rb.toList := nmem_toList fun g hg => (hfr g hg).2.1
    have HFR := Lib.hid hfr
    clear hfr
    go_wp2_with (first | (go_at_call 78; refine (HCk.out _).mono ?_; rintro e w3 ⟨rfl, he3⟩; have hX3 := hX.ext he3 (by simp); have hB3 := hBx.ext he3 (by simp); have hS3 := hS.ext he3 (by simp); have hE3' := hE.trans he3 (by simp); have hcX3 := hX3.cells; have hfX3 := hX3.free; have hcB3 := hB3.cells; clear hcX hfX hcB hX hBx hS hE he3) | (go_at_call 77; refine (HSL.out _).mono ?_; rintro e w4 ⟨rfl, rfl⟩) | (at_builtin; go_loud (refine wpList_append_sl _ rfl (.tmp 59) (.tmp 61) 55 55 rfl 3 i0 (.int .i64 0) 1 8 i64_slice HI.out HZ.out HZ1.out HZ2.out rfl (by decide) (hS3.ext ((Ext.refl [] _).alloc _) (by simp)) 1 [.int .i64 r] ((Blk.new _ _ _).src1 i64_slice rfl) (by unfold maxLen; omega) (by omega) ?_); intro v' b' w5 hsl5 he5 hb5; obtain ⟨ra5, rc5, rfl⟩ := hsl5.form; have HB5 := Lib.hid hb5; clear hb5; have hX5 := (hX3.alloc _).ext he5 hnx; have hB5 := (hB3.alloc _).ext he5 hnb; have hcX5 := hX5.cells; have hfX5 := hX5.free; have hcB5 := hB5.cells; clear hcX3 hfX3 hcB3))
    · skip
      go_wp2_with fail
      refine wp_region_rg [0, 0, 0, 0, 0, 0, 0, 0, 0, 0, 0, 0, 0, 0, 0, 0, 0, 2] (by kernel_rfl) (by kernel_rfl) ?_
      repeat (first | (with_reducible refine wpH_tail ?_) | ((with_reducible refine wpH_float (fun K hK => ?_)); go_simp; refine hK _ ?_; clear hK K) | ((with_reducible refine wpH_near (fun K hK => ?_)); go_simp; first | (refine hK _ ?_; clear hK K) | (apply Exists.intro; refine ⟨fun _ => ?_, hK _ ?_⟩; (fail); clear hK K)))
      refine wpH_nil ?_
      rintro _ ⟨nq, rfl⟩
      simp only [rgTailOps, Nat.reduceEqDiff, if_true, if_false]
      go_wp2_with (with_reducible refine NoPanic.normal ?_)
      go_roundg (gk - 1)
      case measure => omega
      case rel =>
        have hlx := hX3.lt
        have hlw := hE3'.size
        have hfr' : ∀ g, b' = some g → g ≠ x ∧ g ≠ bx ∧ w.heap.size ≤ g := by
          intro g hg
          rcases HB5.out with h1 | h1
          · exact HFR.out g (h1 ▸ hg)
          · rw [h1] at hg
            have hlb := hB3.lt
            simp only [Option.some.injEq, World.size_alloc] at hg
            omega
        refine ⟨k + 1, by simp, by omega, ⟨⟨.slice ra5 (k + 1) rc5, b', ?_, ?_, hfr'⟩, ?_, ?_⟩⟩
        · refine (((hX5.set 22 (.slice ra5 (k + 1) rc5)).drewN _).set 6 _).congr ?_
          rw [HBASE.out, HPs.out, ← HP.out, ← HD.out]
          simp [mkCells]
          omega
        · rw [HSs.out, i64s_append]
          exact hsl5.ext (S := [x]) ((((Ext.refl [x] _).setCell ⟨x, 22, none⟩ _ (.inl (by simp))).drewN _).setCell ⟨x, 6, none⟩ _ (.inl (by simp))) (fun g hg => by simpa using (hfr' g hg).1)
        · exact ((hB5.set_ne (p := ⟨x, 22, none⟩) _ hxne).drewN _).set_ne (p := ⟨x, 6, none⟩) _ hxne
        · refine ((Ext.setCell ?_ _ _ (.inr ?_)).drewN _).setCell _ _ (.inr ?_)
          · exact (hE3'.alloc _).ofOpt he5 fun g hg => (HFR.out g hg).2.2
          · exact hwx'
          · exact hwx'
    have hkn : k = n.toNat := by omega
    have HKN := Lib.hid hkn
    have hk60' : (k : Int) ≤ 60 := by omega
    clear hkn
    obtain ⟨s0, s1⟩ := hsw
    obtain ⟨u0, u1⟩ := hdq
    have hx7 : (x7 == 0) = false := by rw [beq_eq_false_iff_ne]; omega
    have hx7' : ¬ x7 = 0 := by omega
    obtain ⟨f, hff⟩ : ∃ f, f = (n + x7 - 1) / x7 := ⟨_, rfl⟩
    have hf : (n + x7 - 1).tdiv x7 = f := by rw [hff]; exact Int.tdiv_eq_ediv_of_nonneg (by omega)
    have hf0 : 1 ≤ f := by
      have h3 := Int.ediv_le_ediv (by omega : 0 < x7) (by omega : 1 * x7 ≤ n + x7 - 1)
      rw [Int.mul_ediv_cancel _ (by omega), ← hff] at h3
      exact h3
    have hf1 : f ≤ n := by
      have h3 := Int.ediv_le_ediv (by omega : 0 < x7) (show n + x7 - 1 ≤ n * x7 by
        have := Int.mul_le_mul_of_nonneg_left s0 (by omega : 0 ≤ n - 1)
        have e : (n - 1) * x7 = n * x7 - x7 := by rw [Int.sub_mul]; omega
        omega)
      rw [Int.mul_ediv_cancel _ (by omega), ← hff] at h3
      exact h3
    have HF := Lib.hid hff
    clear hff
    obtain ⟨g, hgg⟩ : ∃ g, g = x1 * (2 + x3) := ⟨_, rfl⟩
    have hg : x1 * (2 + x3) = g := hgg.symm
    have hg0 : 0 ≤ g := by rw [hgg]; exact Int.mul_nonneg (by omega) (by omega)
    have hg1 : g ≤ 40 := by
      rw [hgg]
      have := Int.mul_le_mul (by omega : x1 ≤ 4) (by omega : 2 + x3 ≤ 10) (by omega) (by omega)
      omega
    have HG := Lib.hid hgg
    clear hgg
    clear HD hd hd0 hd1 HCk HSL
    go_wp2_with fail
    refine wp_region_rg [0, 0, 0, 0, 0, 0, 0, 0, 0, 0, 0, 0, 0, 0, 0, 0, 2] (by kernel_rfl) (by kernel_rfl) ?_
    repeat (first | (with_reducible refine wpH_tail ?_) | ((with_reducible refine wpH_float (fun K hK => ?_)); go_simp; refine hK _ ?_; clear hK K) | ((with_reducible refine wpH_near (fun K hK => ?_)); go_simp; first | (refine hK _ ?_; clear hK K) | (apply Exists.intro; refine ⟨fun _ => ?_, hK _ ?_⟩; (fail); clear hK K)))
    refine wpH_nil ?_
    rintro _ ⟨nq, rfl⟩
    simp only [rgTailOps, Nat.reduceEqDiff, if_true, if_false]
    go_wp2_with (with_reducible refine NoPanic.normal ?_)
    go_wp2_with fail
    refine wp_region_rg [0, 0, 0, 0, 0, 0, 0, 0, 0, 0, 0, 0, 2] (by kernel_rfl) (by kernel_rfl) ?_
    repeat (first | (with_reducible refine wpH_tail ?_) | ((with_reducible refine wpH_float (fun K hK => ?_)); go_simp; refine hK _ ?_; clear hK K) | ((with_reducible refine wpH_near (fun K hK => ?_)); go_simp; first | (refine hK _ ?_; clear hK K) | (apply Exists.intro; refine ⟨fun _ => ?_, hK _ ?_⟩; (fail); clear hK K)))
    refine wpH_nil ?_
    rintro _ ⟨nq, rfl⟩
    simp only [rgTailOps, Nat.reduceEqDiff, if_true, if_false]
    go_wp2_with (with_reducible refine NoPanic.normal ?_)
    go_wp2_with fail
    refine wp_region_rg [0, 0, 0, 0, 0, 0, 0, 0, 0, 0, 0, 0, 0, 0, 0, 0, 2] (by kernel_rfl) (by kernel_rfl) ?_
    repeat (first | (with_reducible refine wpH_tail ?_) | ((with_reducible refine wpH_float (fun K hK => ?_)); go_simp; refine hK _ ?_; clear hK K) | ((with_reducible refine wpH_near (fun K hK => ?_)); go_simp; first | (refine hK _ ?_; clear hK K) | (apply Exists.intro; refine ⟨fun _ => ?_, hK _ ?_⟩; (fail); clear hK K)))
    refine wpH_nil ?_
    rintro _ ⟨nq, rfl⟩
    simp only [rgTailOps, Nat.reduceEqDiff, if_true, if_false]
    go_wp2_with (with_reducible refine NoPanic.normal ?_)
    go_wp2_with fail
    refine wp_region_rg [0, 0, 0, 0, 0, 0, 0, 0, 0, 0, 0, 0, 0, 0, 0, 0, 2] (by kernel_rfl) (by kernel_rfl) ?_
    repeat (first | (with_reducible refine wpH_tail ?_) | ((with_reducible refine wpH_float (fun K hK => ?_)); go_simp; refine hK _ ?_; clear hK K) | ((with_reducible refine wpH_near (fun K hK => ?_)); go_simp; first | (refine hK _ ?_; clear hK K) | (apply Exists.intro; refine ⟨fun _ => ?_, hK _ ?_⟩; (fail); clear hK K)))
    refine wpH_nil ?_
    rintro _ ⟨nq, rfl⟩
    simp only [rgTailOps, Nat.reduceEqDiff, if_true, if_false]
    go_wp2_with (with_reducible refine NoPanic.normal ?_)
    obtain ⟨g0, hrg⟩ : ∃ g0, rb = some g0 := by
      cases rb with
      | none => have := hS.2.2; have := HKN.out; omega
      | some g => exact ⟨g, rfl⟩
    subst hrg
    obtain ⟨hsl, cap, rs, hv, hRb, hcp, hnc, _⟩ := hS
    cases hv
    have hgx := (HFR.out g0 rfl).1
    have hgw := (HFR.out g0 rfl).2.2
    have hXf := hX
    go_unwrap
    go_loopg [170] k (fun g' v W => ∃ j : Nat, v = .int .i64 (j : Int) ∧ g' + j = k ∧ AtRel ⟨c0, c1, c2, c3, c4, x1, x2, x3, x4, x5, x6, x7⟩ n (6 + x2 + 5) (6 + x2 + 5 + g) (6 + x2 + 5 + g + (n + 2 * x1 + x2 + p) * 6) f (n + 2 * x1 + x2 + p) k (some ⟨g0, 0, none⟩) rc w x g0 rs j W)
    case atStart =>
      refine ⟨0, by simp, by omega, ⟨⟨.slice none 0 0, none, ?_, Sl.nil _ _ _, by simp⟩, ?_, ?_⟩⟩
      · refine (((((((((((hX.drewN _).set 7 _).set 0 _).drewN _).set 1 _).set 2 _).drewN _).set 3 _).drewN _).set 4 _).set 8 _).congr ?_
        simp [mkCells]
      · exact ((((((((((hRb.drewN _).set_ne _ (Ne.symm hgx)).set_ne _ (Ne.symm hgx)).drewN _).set_ne _ (Ne.symm hgx)).set_ne _ (Ne.symm hgx)).drewN _).set_ne _ (Ne.symm hgx)).drewN _).set_ne _ (Ne.symm hgx)).set_ne _ (Ne.symm hgx)
      · exact ((((((((((hE.drewN _).setCell _ _ (.inr (by exact hwx'))).setCell _ _ (.inr (by exact hwx'))).drewN _).setCell _ _ (.inr (by exact hwx'))).setCell _ _ (.inr (by exact hwx'))).drewN _).setCell _ _ (.inr (by exact hwx'))).drewN _).setCell _ _ (.inr (by exact hwx'))).setCell _ _ (.inr hwx')
    case round =>
      obtain ⟨j, rfl, hgj, ⟨⟨av, ab, hX2, hS2, hfr2⟩, hR2, hE2'⟩⟩ := hrel
      obtain ⟨va, vc, rfl⟩ := hS2.form
      clear hcX hfX hcB hX hBx hE hRb
      try clear HK HN HC HM0
      try clear hB1 hX0
      try clear hE2 hE3
      try clear he1 he2
      try clear hXf hx4 hx4' hx7 hx7' hf hg HFR hnx hnb HSs HPs
      have hnx2 : x ∉ ab.toList := nmem_toList fun g hg => (hfr2 g hg).1
      have hng2 : g0 ∉ ab.toList := nmem_toList fun g hg => (hfr2 g hg).2.1
      have HFR2 := Lib.hid hfr2
      clear hfr2
      have hsm := sum_in ((Cfg.rooms ⟨c0, c1, c2, c3, c4, x1, x2, x3, x4, x5, x6, x7⟩ k).take j) (fun y hy => Cfg.rooms_in _ _ y (List.mem_of_mem_take hy))
      have hlj : ((Cfg.rooms ⟨c0, c1, c2, c3, c4, x1, x2, x3, x4, x5, x6, x7⟩ k).take j).length = j := by rw [List.length_take, Cfg.rooms_len]; omega
      rw [hlj] at hsm
      obtain ⟨sm, hsme⟩ : ∃ sm, sm = ((Cfg.rooms ⟨c0, c1, c2, c3, c4, x1, x2, x3, x4, x5, x6, x7⟩ k).take j).sum := ⟨_, rfl⟩
      rw [← hsme] at hX2 hsm
      have HSM := Lib.hid hsme
      have HLJ := Lib.hid hlj
      clear hsme hlj
      obtain ⟨sm0, sm1⟩ := hsm
      simp only [mkCells] at hX2
      have hcX2 := hX2.cells
      have hfX2 := hX2.free
      by_cases hjk : j < k
      · have hjk' : (j : Int) < (k : Int) := by omega
        have hlr : j < (Cfg.rooms ⟨c0, c1, c2, c3, c4, x1, x2, x3, x4, x5, x6, x7⟩ k).length := by rw [Cfg.rooms_len]; exact hjk
        have hcr : wr.cell? ⟨g0, j, none⟩ = some (.int .i64 ((Cfg.rooms ⟨c0, c1, c2, c3, c4, x1, x2, x3, x4, x5, x6, x7⟩ k).getD j 0)) := by
          rw [hR2.cells, List.getElem?_append_left (by simpa using hlr), i64s_get _ _ hlr]
        have hrr := Cfg.rooms_in ⟨c0, c1, c2, c3, c4, x1, x2, x3, x4, x5, x6, x7⟩ k _ (getD_mem _ j hlr)
        have htk : (Cfg.rooms ⟨c0, c1, c2, c3, c4, x1, x2, x3, x4, x5, x6, x7⟩ k).take (j + 1) = (Cfg.rooms ⟨c0, c1, c2, c3, c4, x1, x2, x3, x4, x5, x6, x7⟩ k).take j ++ [(Cfg.rooms ⟨c0, c1, c2, c3, c4, x1, x2, x3, x4, x5, x6, x7⟩ k).getD j 0] := by
          rw [List.take_succ_eq_append_getElem hlr]; simp [hlr]
        generalize (Cfg.rooms ⟨c0, c1, c2, c3, c4, x1, x2, x3, x4, x5, x6, x7⟩ k).getD j 0 = r' at hcr hrr htk
        obtain ⟨rr0, rr1⟩ := hrr
        have HTK := Lib.hid htk
        clear htk
        go_wp2_with fail
        refine wp_region_rs [1, 1, 1, 1, 1, 0, 0, 0, 0, 0, 2, 2, 3, 3, 3] (fun W => W.cell? ⟨x, 21, none⟩ = some (.slice va j vc)) (by kernel_rfl) (by kernel_rfl) (by decide) (by intro n; go_simp) ?_
        repeat (first | (with_reducible refine wpHS_tail2 ?_) | (with_reducible refine wpHS_tail3 ?_) | ((with_reducible refine wpHS_float (fun K hK => ?_)); go_simp; first | ((with_reducible refine hK _ ?_); clear hK K) | (apply Exists.intro; (with_reducible refine ⟨fun w hw => ?_, hK _ ?_⟩); (first | rfl | (rw [hw]; rfl) | (simp only [hw]; rfl)); clear hK K)) | ((with_reducible refine wpHS_near (fun K hK => ?_)); go_simp; first | (refine hK _ ?_; clear hK K) | (apply Exists.intro; refine ⟨fun _ => ?_, hK _ ?_⟩; (fail); clear hK K)))
        refine wpHS_nil ?_
        rintro _ ⟨nq, rfl⟩
        simp only [rsTailOps, Nat.reduceEqDiff, if_true, if_false]
        refine wpListS_step rfl (fun K hK => ?_)
        go_simp
        refine hK _ _ ?_ ?_
        · exact (((hX2.drewN nq).alloc _).cell 21 rfl)
        clear hK K
        refine wpListS_step rfl (fun K hK => ?_)
        refine wp_append_sl _ (.tmp 178) (.tmp 184) 55 55 rfl 3 i0 (.int .i64 0) 1 8 i64_slice HI.out HZ.out HZ1.out HZ2.out rfl (by decide) ((hS2.drewN nq).ext ((Ext.refl [] _).alloc _) (by simp)) 1 [.int .i64 (6 + x2 + 5 + g + (n + 2 * x1 + x2 + p) * 6 + 4 * j + sm)] ((Blk.new (wr.drewN nq) [.int .i64 (6 + x2 + 5 + g + (n + 2 * x1 + x2 + p) * 6 + 4 * j + sm)] _).src1 i64_slice rfl) (by unfold maxLen; omega) (by omega) ?_
        intro v' b' w5 hsl5 he5 hb5
        obtain ⟨ra5, rc5, rfl⟩ := hsl5.form
        have hX5 := ((hX2.drewN nq).alloc _).ext he5 hnx2
        have hR5 := ((hR2.drewN nq).alloc _).ext he5 hng2
        have hcX5 := hX5.cells
        have hfX5 := hX5.free
        have HB5 := Lib.hid hb5
        have hlx := hX2.lt
        have hlr5 := hR2.lt
        clear hb5 hcX2 hfX2 hcr
        refine hK _ _ ?_ ?_
        · go_simp
        clear hK K
        refine wpListS_nil ?_
        go_wp2_with (with_reducible refine NoPanic.normal ?_)
        go_roundg (gk - 1)
        case measure => omega
        case rel =>
          have hlw := hE2'.size
          have hfr' : ∀ g, b' = some g → g ≠ x ∧ g ≠ g0 ∧ w.heap.size ≤ g := by
            intro g hg
            rcases HB5.out with h1 | h1
            · exact HFR2.out g (h1 ▸ hg)
            · rw [h1] at hg
              simp only [Option.some.injEq, World.size_alloc, drewN_size] at hg
              omega
          refine ⟨j + 1, by simp, by omega, ⟨⟨.slice ra5 (j + 1) rc5, b', ?_, ?_, hfr'⟩, ?_, ?_⟩⟩
          · refine ((hX5.set 21 (.slice ra5 (j + 1) rc5)).set 8 _).congr ?_
            rw [HTK.out, List.sum_append, ← HSM.out]
            simp [mkCells]
            omega
          · rw [HTK.out, ats_append, i64s_append, HLJ.out, ← HSM.out]
            exact hsl5.ext (S := [x]) (((Ext.refl [x] _).setCell ⟨x, 21, none⟩ _ (.inl (by simp))).setCell ⟨x, 8, none⟩ _ (.inl (by simp))) (fun g hg => by simpa using (hfr' g hg).1)
          · exact (hR5.set_ne (p := ⟨x, 21, none⟩) _ (Ne.symm hgx)).set_ne (p := ⟨x, 8, none⟩) _ (Ne.symm hgx)
          · refine (Ext.setCell ?_ _ _ (.inr ?_)).setCell _ _ (.inr ?_)
            · exact ((hE2'.drewN nq).alloc _).ofOpt he5 fun g hg => (HFR2.out g hg).2.2
            · exact hwx'
            · exact hwx'
      · have hjk' : ¬ (j : Int) < (k : Int) := by omega
        go_wp2_with fail
        go_ret2
        obtain ⟨a0, ha0⟩ : ∃ a0, ab = some a0 := by
          cases ab with
          | none => have := hS2.2.2; have := HKN.out; omega
          | some g => exact ⟨g, rfl⟩
        subst ha0
        obtain ⟨hal, acap, asp, hav, hAb, hacp, _, _⟩ := hS2
        cases hav
        have hjk2 : j = k := by omega
        subst hjk2
        have hnn : Cfg.nodes ⟨c0, c1, c2, c3, c4, x1, x2, x3, x4, x5, x6, x7⟩ = n := HNN.out
        have hkk := HKN.out
        refine ⟨⟨Cfg.lay ⟨c0, c1, c2, c3, c4, x1, x2, x3, x4, x5, x6, x7⟩, x, a0, g0, asp, rs⟩, rfl, rfl, ⟨?_, ?_, ?_, Cfg.lay_ok _ h⟩, hE2', hwx', (HFR2.out a0 rfl).2.2, hgw⟩
        · have htake : (Cfg.rooms ⟨c0, c1, c2, c3, c4, x1, x2, x3, x4, x5, x6, x7⟩ j).take j = Cfg.rooms ⟨c0, c1, c2, c3, c4, x1, x2, x3, x4, x5, x6, x7⟩ j := List.take_of_length_le (by rw [Cfg.rooms_len]; omega)
          have hsm2 := HSM.out
          have hp2 := HP.out
          have hf2 := HF.out
          have hg2 := HG.out
          have hb2 := HBASE.out
          rw [htake] at hsm2 hacp
          simp only [List.length_append, i64s_length, ats_len, Cfg.rooms_len, Nat.mul_one] at hacp hcp
          refine hX2.congr ?_
          simp only [Mp.cells, Cfg.lay, Cfg.vals, hnn, ← hkk, ats_len, Cfg.rooms_len, hb2, ← hp2, ← hf2, ← hg2, ← hsm2, hacp, hcp]
          simp
          omega
        · have htake : (Cfg.rooms ⟨c0, c1, c2, c3, c4, x1, x2, x3, x4, x5, x6, x7⟩ j).take j = Cfg.rooms ⟨c0, c1, c2, c3, c4, x1, x2, x3, x4, x5, x6, x7⟩ j := List.take_of_length_le (by rw [Cfg.rooms_len]; omega)
          rw [htake] at hAb
          have hp2 := HP.out
          have hg2 := HG.out
          have hb2 := HBASE.out
          refine hAb.congr ?_
          simp only [Cfg.lay, hnn, ← hkk, hb2, ← hp2, ← hg2]
          congr 3
          omega
        · refine hR2.congr ?_
          simp only [Cfg.lay, hnn, ← hkk]
end Go.Proofs.Ytcgnficlcgmffaa
