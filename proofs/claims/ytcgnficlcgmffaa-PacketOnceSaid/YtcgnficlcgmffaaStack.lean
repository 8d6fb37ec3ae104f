/-
  Package stack: things that are linked: a machine's steps.
-/
import Derived.Test.YtcgnficlcgmffaaCells
import Derived.Test.YtcgnficlcgmffaaMap
namespace Go.Proofs.Ytcgnficlcgmffaa
open Go.RowKit

/-! ### A function value against nil -/
theorem func_type : Try.prog.underlying 119 = some (.func #[33] #[] false) := by kernel_rfl
theorem equalIn_func_nil (d : Nat) (fn : Fn) (u v : Array Value) (w : World) : (Op.equalIn (d + 1) 119 (.func fn u v) .nilFunc).run Try.prog w = .ok false w := by
  have h := func_type
  unfold Op.equalIn
  simp [run_underlying h]
theorem equalIn_nil_nil (d : Nat) (w : World) : (Op.equalIn (d + 1) 119 .nilFunc .nilFunc).run Try.prog w = .ok true w := by
  have h := func_type
  unfold Op.equalIn
  simp [run_underlying h]
@[go_sem] theorem eql_func_nil (fn : Fn) (u v : Array Value) (w : World) : (binOp .eql 119 (.func fn u v) .nilFunc).run Try.prog w = .ok (.bool false) w := by
  simp only [binOp]
  simp only [Op.equal, Op.maxDepth]
  have := equalIn_func_nil 9999 fn u v w
  simp [this]
@[go_sem] theorem eql_nil_nil (w : World) : (binOp .eql 119 .nilFunc .nilFunc).run Try.prog w = .ok (.bool true) w := by
  simp only [binOp]
  simp only [Op.equal, Op.maxDepth]
  have := equalIn_nil_nil 9999 w
  simp [this]
@[go_sem] theorem neq_func_nil (fn : Fn) (u v : Array Value) (w : World) : (binOp .neq 119 (.func fn u v) .nilFunc).run Try.prog w = .ok (.bool true) w := by
  simp only [binOp]
  simp only [Op.equal, Op.maxDepth]
  have := equalIn_func_nil 9999 fn u v w
  simp [this]
@[go_sem] theorem neq_nil_nil (w : World) : (binOp .neq 119 .nilFunc .nilFunc).run Try.prog w = .ok (.bool false) w := by
  simp only [binOp]
  simp only [Op.equal, Op.maxDepth]
  have := equalIn_nil_nil 9999 w
  simp [this]

def SM.nx (x : Nat) : Nat → Value
  | 1 => .func (.func 147) #[.pointer (some ⟨x, 0, none⟩)] #[]
  | 2 => .func (.func 166) #[.pointer (some ⟨x, 0, none⟩)] #[]
  | 3 => .func (.func 186) #[.pointer (some ⟨x, 0, none⟩)] #[]
  | 4 => .func (.func 140) #[.pointer (some ⟨x, 0, none⟩)] #[]
  | 5 => .func (.func 164) #[.pointer (some ⟨x, 0, none⟩)] #[]
  | 6 => .func (.func 185) #[.pointer (some ⟨x, 0, none⟩)] #[]
  | _ => .nilFunc
/-- The links: of packets, or of nodes. -/
def atv (μ : Mp) : Bool → Value
  | true => .func (.func 81) #[μ.ptr] #[]
  | false => .func (.func 86) #[μ.ptr] #[]
def lk (μ : Mp) : Bool → Int → Int
  | true => μ.L.link
  | false => μ.L.next
def SM.cells (m : SM) (x : Nat) (at_ : Value) : List Value := [.int .i64 m.head, at_, .int .u32 m.item, .int .u64 m.h, SM.nx x m.pc, .int .u32 m.link, .int .i64 m.tries]
structure IsSM (w : World) (μ : Mp) (b : Bool) (x : Nat) (m : SM) : Prop where
  blk : Blk w x (m.cells x (atv μ b)) 175
  ok : m.Ok
theorem IsSM.ext {w w' : World} {μ : Mp} {b : Bool} {x : Nat} {m : SM} {S : List Nat} (h : IsSM w μ b x m) (he : Ext S w w') (hx : x ∉ S) : IsSM w' μ b x m := ⟨h.blk.ext he hx, h.ok⟩

theorem IsSM.set {w : World} {μ : Mp} {b : Bool} {x : Nat} {m : SM} (h : IsSM w μ b x m) {p : Addr} (v : Value) (hp : p.block ≠ x) : IsSM (w.setCell p v) μ b x m := ⟨h.blk.set_ne v hp, h.ok⟩
theorem Pop_c' (head : Int) (fn : Fn) (u v : Array Value) (w : World) : Calls Try.prog 87 #[.int .i64 head, .func fn u v] w fun e w' =>
    e = .returned (.pointer (some ⟨w.heap.size, 0, none⟩)) ∧ Blk w' w.heap.size ((SM.mk head 0 0 0 0 4).cells w.heap.size (.func fn u v)) 175 ∧ w'.heap.size = w.heap.size + 1 ∧ Ext [] w w' := by
  go_enter Try.func87, Try.ntmps87
  go_wp2
  go_ret
  refine ⟨rfl, ?_, by simp, (Ext.refl _ _).alloc _⟩
  exact Blk.new _ _ _

theorem Push_c' (head : Int) (fn : Fn) (u v : Array Value) (item : Int) (w : World) (hi : U32 item) : Calls Try.prog 99 #[.int .i64 head, .func fn u v, .int .i64 item] w fun e w' =>
    e = .returned (.pointer (some ⟨w.heap.size, 0, none⟩)) ∧ Blk w' w.heap.size ((SM.mk head item 0 0 0 1).cells w.heap.size (.func fn u v)) 175 ∧ w'.heap.size = w.heap.size + 1 ∧ Ext [] w w' := by
  obtain ⟨h0, h1⟩ := hi
  go_enter Try.func99, Try.ntmps99
  go_wp2
  go_ret
  refine ⟨rfl, ?_, by simp, (Ext.refl _ _).alloc _⟩
  exact Blk.new _ _ _

section
variable {w : World} {σ : St} {μ : Mp} {b : Bool} {x : Nat} {m : SM} (hσ : IsSt w σ) (hx : IsSM w μ b x m) (n1 : x ≠ σ.s) (n2 : x ≠ σ.sb)
include hσ hx n1 n2

theorem look_c : Calls Try.prog 163 #[.pointer (some ⟨x, 0, none⟩), .pointer (some ⟨σ.s, 0, none⟩)] w fun e w' =>
    e = .returned (.int .u32 (wLo (σ.load m.head))) ∧ IsSt w' σ.tick ∧ IsSM w' μ b x { m with h := σ.load m.head, tries := wrap64 (m.tries + 1) } ∧ Ext [σ.s, σ.sb, x] w w' := by
  have hc := hx.blk.cells
  have hf := hx.blk.free
  have hl := hσ.load_u64 m.head
  simp only [SM.cells] at hc
  have hσ1 : IsSt (w.setCell ⟨x, 6, none⟩ (.int .i64 (wrap64 (m.tries + 1)))) σ := hσ.ext ((Ext.refl [x] w).setCell _ _ (.inl (by simp))) (by simpa using n1.symm) (by simpa using n2.symm)
  have hx1 := hx.blk.set 6 (.int .i64 (wrap64 (m.tries + 1)))
  have e1 : Ext [σ.s, σ.sb, x] w (w.setCell ⟨x, 6, none⟩ (.int .i64 (wrap64 (m.tries + 1)))) := (Ext.refl _ w).setCell _ _ (.inl (by simp))
  go_enter Try.func163, Try.ntmps163
  go_wp2_with (first | (go_at_call 31; refine (Load_c σ _ _ hσ1).mono ?_; rintro e w1 ⟨rfl, hs1, he1⟩; have hx2 := hx1.ext he1 (by simp [n1, n2]); have hc1 := hx2.cells; have hf1 := hx2.free; simp only [SM.cells, List.set] at hc1) | (go_at_call 54; refine (Split_c _ _ hl).mono ?_; rintro e w2 ⟨rfl, nq, rfl⟩))
  go_ret
  refine ⟨rfl, (hs1.set _ n1 n2).drewN nq, ⟨?_, hx.ok.item, hl, hx.ok.link⟩, ((e1.trans he1 (by simp)).setCell _ _ (.inl (by simp))).drewN nq⟩
  exact hx2.set 3 _

theorem pushHead_c : Calls Try.prog 147 #[.pointer (some ⟨x, 0, none⟩), .pointer (some ⟨σ.s, 0, none⟩)] w fun e w' =>
    e = .returned (.tuple #[]) ∧ IsSt w' σ.tick ∧ IsSM w' μ b x { m with h := σ.load m.head, link := wLo (σ.load m.head), tries := wrap64 (m.tries + 1), pc := 2 } ∧ Ext [σ.s, σ.sb, x] w w' := by
  have HL := Lib.hid (look_c hσ hx n1 n2)
  have hl := hσ.load_u64 m.head
  go_enter Try.func147, Try.ntmps147
  go_wp2_with (go_at_call 163; refine HL.out.mono ?_; rintro e w1 ⟨rfl, hs1, hx1, he1⟩; have hc1 := hx1.blk.cells; have hf1 := hx1.blk.free; simp only [SM.cells] at hc1)
  go_end0
  refine ⟨rfl, (hs1.set _ n1 n2).set _ n1 n2, ⟨?_, hx.ok.item, hl, wLo_u32 _⟩, (he1.setCell _ _ (.inl (by simp))).setCell _ _ (.inl (by simp))⟩
  exact (hx1.blk.set 5 _).set 4 _

theorem popHead_c : Calls Try.prog 140 #[.pointer (some ⟨x, 0, none⟩), .pointer (some ⟨σ.s, 0, none⟩)] w fun e w' =>
    e = .returned (.tuple #[]) ∧ IsSt w' σ.tick ∧ IsSM w' μ b x { m with h := σ.load m.head, item := wLo (σ.load m.head), tries := wrap64 (m.tries + 1), pc := pcIf (decide (wLo (σ.load m.head) = 0)) 5 } ∧ Ext [σ.s, σ.sb, x] w w' := by
  have HL := Lib.hid (look_c hσ hx n1 n2)
  have hl := hσ.load_u64 m.head
  have hk := wLo_u32 (σ.load m.head)
  generalize σ.load m.head = q at HL hl hk ⊢
  generalize wLo q = r at HL hk ⊢
  by_cases hr : r = 0
  · subst hr
    go_enter Try.func140, Try.ntmps140
    go_wp2_with (go_at_call 163; refine HL.out.mono ?_; rintro e w1 ⟨rfl, hs1, hx1, he1⟩; have hc1 := hx1.blk.cells; have hf1 := hx1.blk.free; simp only [SM.cells] at hc1)
    go_end0
    refine ⟨rfl, ((hs1.set _ n1 n2).set _ n1 n2).set _ n1 n2, ⟨?_, hk, hl, hx.ok.link⟩, ((he1.setCell _ _ (.inl (by simp))).setCell _ _ (.inl (by simp))).setCell _ _ (.inl (by simp))⟩
    exact ((hx1.blk.set 2 _).set 4 _).set 4 _
  · have hb : (r == 0) = false := by simpa using hr
    rw [show pcIf (decide (r = 0)) 5 = 5 from by simp [pcIf, hr]]
    clear hr
    go_enter Try.func140, Try.ntmps140
    go_wp2_with (go_at_call 163; refine HL.out.mono ?_; rintro e w1 ⟨rfl, hs1, hx1, he1⟩; have hc1 := hx1.blk.cells; have hf1 := hx1.blk.free; simp only [SM.cells] at hc1)
    go_end0
    refine ⟨rfl, (hs1.set _ n1 n2).set _ n1 n2, ⟨?_, hk, hl, hx.ok.link⟩, (he1.setCell _ _ (.inl (by simp))).setCell _ _ (.inl (by simp))⟩
    exact (hx1.blk.set 2 _).set 4 _

theorem turn_c (low : Int) (again : Nat) (ha : again = 1 ∨ again = 4) (hlow : U32 low) : Calls Try.prog 198 #[.pointer (some ⟨x, 0, none⟩), .pointer (some ⟨σ.s, 0, none⟩), .int .u32 low, SM.nx x again] w fun e w' =>
    e = .returned (.tuple #[]) ∧ IsSt w' (σ.swap m.head m.h (wTurn m.h low)) ∧ IsSM w' μ b x { m with pc := pcIf (σ.swaps m.head m.h) again } ∧ Ext [σ.s, σ.sb, x] w w' := by
  have hc := hx.blk.cells
  have hf := hx.blk.free
  simp only [SM.cells] at hc
  have hT := fun W => Turn_c m.h low W hx.ok.h hlow
  have HT := Lib.hid hT
  clear hT
  have hu : U64 (wTurn m.h low) := wTurn_u64 hlow
  generalize wTurn m.h low = t at HT hu ⊢
  obtain ⟨q, hq⟩ : ∃ q, q = σ.swaps m.head m.h := ⟨_, rfl⟩
  have HS := Lib.hid (fun W (hW : IsSt W σ) => Swap_c σ m.head m.h t W hW hu)
  rw [← hq] at HS ⊢
  have HQ := Lib.hid hq
  clear hu hq
  have n1' := n1.symm
  have n2' := n2.symm
  have hσ1 : IsSt (w.setCell ⟨x, 4, none⟩ (SM.nx x again)) σ := hσ.set _ n1 n2
  have hx1 : Blk (w.setCell ⟨x, 4, none⟩ (SM.nx x again)) x ({ m with pc := again }.cells x (atv μ b)) 175 := hx.blk.set 4 _
  have e1 : Ext [σ.s, σ.sb, x] w (w.setCell ⟨x, 4, none⟩ (SM.nx x again)) := (Ext.refl _ w).setCell _ _ (.inl (by simp))
  cases q
  all_goals
    rcases ha with rfl | rfl
    all_goals
      simp only [SM.nx] at hσ1 hx1 e1 ⊢
      go_enter Try.func198, Try.ntmps198
      go_wp2
      go_wp2_with fail
      refine wp_region_rg [0, 0, 0, 0, 0, 0, 0, 0, 0, 0, 0, 0, 0, 0, 0, 2] (by kernel_rfl) (by kernel_rfl) ?_
      repeat (first | (with_reducible refine wpH_tail ?_) | ((with_reducible refine wpH_float (fun K hK => ?_)); go_simp; refine hK _ ?_; clear hK K) | ((with_reducible refine wpH_near (fun K hK => ?_)); go_simp; first | (refine hK _ ?_; clear hK K) | (apply Exists.intro; refine ⟨fun _ => ?_, hK _ ?_⟩; (refine Calls.quiet_of (HT.out _)); clear hK K)))
      refine wpH_nil ?_
      rintro _ ⟨nq, rfl⟩
      simp only [rgTailOps, Nat.reduceEqDiff, if_true, if_false]
      go_wp2_with (first | (with_reducible refine NoPanic.normal ?_) | (go_at_call 201; refine (HS.out _ (hσ1.drewN nq)).mono ?_; rintro e w1 ⟨rfl, hs1, he1⟩; have hx2 := (hx1.drewN nq).ext he1 (by simp [n1, n2]); have hc1 := hx2.cells; have hf1 := hx2.free; simp only [SM.cells] at hc1))
      go_end0
  · refine ⟨rfl, hs1, ⟨?_, hx.ok.item, hx.ok.h, hx.ok.link⟩, (e1.drewN nq).trans he1 (by simp)⟩
    exact hx2
  · refine ⟨rfl, hs1, ⟨?_, hx.ok.item, hx.ok.h, hx.ok.link⟩, (e1.drewN nq).trans he1 (by simp)⟩
    exact hx2
  · refine ⟨rfl, hs1.set _ (by simpa using n1) (by simpa using n2), ⟨?_, hx.ok.item, hx.ok.h, hx.ok.link⟩, ((e1.drewN nq).trans he1 (by simp)).setCell _ _ (.inl (by simp))⟩
    exact hx2.set 4 _
  · refine ⟨rfl, hs1.set _ (by simpa using n1) (by simpa using n2), ⟨?_, hx.ok.item, hx.ok.h, hx.ok.link⟩, ((e1.drewN nq).trans he1 (by simp)).setCell _ _ (.inl (by simp))⟩
    exact hx2.set 4 _

theorem pushSwap_c : Calls Try.prog 186 #[.pointer (some ⟨x, 0, none⟩), .pointer (some ⟨σ.s, 0, none⟩)] w fun e w' =>
    e = .returned (.tuple #[]) ∧ IsSt w' (σ.swap m.head m.h (wTurn m.h m.item)) ∧ IsSM w' μ b x { m with pc := pcIf (σ.swaps m.head m.h) 1 } ∧ Ext [σ.s, σ.sb, x] w w' := by
  have hc := hx.blk.cells
  simp only [SM.cells] at hc
  have HT := Lib.hid (turn_c hσ hx n1 n2 m.item 1 (.inl rfl) hx.ok.item)
  simp only [SM.nx] at HT
  go_enter Try.func186, Try.ntmps186
  go_wp2_with (go_at_call 198; refine HT.out.mono ?_; rintro e w1 ⟨rfl, hp⟩)
  go_end0
  exact ⟨rfl, hp⟩

theorem popSwap_c : Calls Try.prog 185 #[.pointer (some ⟨x, 0, none⟩), .pointer (some ⟨σ.s, 0, none⟩)] w fun e w' =>
    e = .returned (.tuple #[]) ∧ IsSt w' (σ.swap m.head m.h (wTurn m.h m.link)) ∧ IsSM w' μ b x { m with pc := pcIf (σ.swaps m.head m.h) 4 } ∧ Ext [σ.s, σ.sb, x] w w' := by
  have hc := hx.blk.cells
  simp only [SM.cells] at hc
  have HT := Lib.hid (turn_c hσ hx n1 n2 m.link 4 (.inr rfl) hx.ok.link)
  simp only [SM.nx] at HT
  go_enter Try.func185, Try.ntmps185
  go_wp2_with (go_at_call 198; refine HT.out.mono ?_; rintro e w1 ⟨rfl, hp⟩)
  go_end0
  exact ⟨rfl, hp⟩

theorem popLink_c (hμ : IsMap w μ) : Calls Try.prog 164 #[.pointer (some ⟨x, 0, none⟩), .pointer (some ⟨σ.s, 0, none⟩)] w fun e w' =>
    e = .returned (.tuple #[]) ∧ IsSt w' σ.tick ∧ IsSM w' μ b x { m with link := σ.load (lk μ b m.item) % 4294967296, pc := 6 } ∧ Ext [σ.s, σ.sb, x] w w' := by
  have hc := hx.blk.cells
  have hf := hx.blk.free
  simp only [SM.cells] at hc
  obtain ⟨i0, i1⟩ := hx.ok.item
  cases b
  all_goals
    simp only [atv, lk] at hc ⊢
    unfold Mp.ptr at hc
    go_enter Try.func164, Try.ntmps164
    go_wp2_with fail
    refine wp_region_rg [1, 0, 0, 0, 0, 0, 0, 0, 0, 0, 0, 0, 2, 2, 2, 2, 2] (by kernel_rfl) (by kernel_rfl) ?_
    repeat (first | (with_reducible refine wpH_tail ?_) | ((with_reducible refine wpH_float (fun K hK => ?_)); go_simp; refine hK _ ?_; clear hK K) | ((with_reducible refine wpH_near (fun K hK => ?_)); go_simp; first | (refine hK _ ?_; clear hK K) | (apply Exists.intro; refine ⟨fun _ => ?_, hK _ ?_⟩; (first | exact Calls.quiet_of_same ((Link_c (hμ.drewN _) _).mono fun e w' h => ⟨h.1, h.2.symm⟩) | exact Calls.quiet_of_same ((Next_c (hμ.drewN _) _).mono fun e w' h => ⟨h.1, h.2.symm⟩)); clear hK K)))
    refine wpH_nil ?_
    rintro _ ⟨nq, rfl⟩
    simp only [rgTailOps, Nat.reduceEqDiff, if_true, if_false]
    go_wp2_with (first | (with_reducible refine NoPanic.normal ?_) | (go_at_call 31; refine (Load_c σ _ _ (hσ.drewN nq)).mono ?_; rintro e w1 ⟨rfl, hs1, he1⟩; have hx1 := (hx.blk.drewN nq).ext he1 (by simp [n1, n2]); have hc1 := hx1.cells; have hf1 := hx1.free; simp only [SM.cells] at hc1))
    go_end0
    refine ⟨rfl, (hs1.set _ n1 n2).set _ n1 n2, ⟨?_, hx.ok.item, hx.ok.h, ⟨Int.emod_nonneg _ (by omega), Int.emod_lt_of_pos _ (by omega)⟩⟩, ((((Ext.refl _ w).drewN nq).trans he1 (by simp)).setCell _ _ (.inl (by simp))).setCell _ _ (.inl (by simp))⟩
    exact (hx1.set 5 _).set 4 _

theorem pushLink_c (hμ : IsMap w μ) : Calls Try.prog 166 #[.pointer (some ⟨x, 0, none⟩), .pointer (some ⟨σ.s, 0, none⟩)] w fun e w' =>
    e = .returned (.tuple #[]) ∧ IsSt w' (σ.put (lk μ b m.item) m.link) ∧ IsSM w' μ b x { m with pc := 3 } ∧ Ext [σ.s, σ.sb, x] w w' := by
  have hc := hx.blk.cells
  have hf := hx.blk.free
  simp only [SM.cells] at hc
  obtain ⟨i0, i1⟩ := hx.ok.item
  obtain ⟨l0, l1⟩ := hx.ok.link
  have hu : U64 m.link := ⟨l0, by omega⟩
  cases b
  all_goals
    simp only [atv, lk] at hc ⊢
    unfold Mp.ptr at hc
    go_enter Try.func166, Try.ntmps166
    go_wp2_with fail
    refine wp_region_rg [0, 0, 0, 0, 0, 0, 0, 0, 0, 0, 0, 0, 0, 0, 0, 0, 2] (by kernel_rfl) (by kernel_rfl) ?_
    repeat (first | (with_reducible refine wpH_tail ?_) | ((with_reducible refine wpH_float (fun K hK => ?_)); go_simp; refine hK _ ?_; clear hK K) | ((with_reducible refine wpH_near (fun K hK => ?_)); go_simp; first | (refine hK _ ?_; clear hK K) | (apply Exists.intro; refine ⟨fun _ => ?_, hK _ ?_⟩; (first | exact Calls.quiet_of_same ((Link_c (hμ.drewN _) _).mono fun e w' h => ⟨h.1, h.2.symm⟩) | exact Calls.quiet_of_same ((Next_c (hμ.drewN _) _).mono fun e w' h => ⟨h.1, h.2.symm⟩)); clear hK K)))
    refine wpH_nil ?_
    rintro _ ⟨nq, rfl⟩
    simp only [rgTailOps, Nat.reduceEqDiff, if_true, if_false]
    go_wp2_with (first | (with_reducible refine NoPanic.normal ?_) | (go_at_call 19; refine (Put_c σ _ _ _ (hσ.drewN nq) hu).mono ?_; rintro e w1 ⟨rfl, hs1, he1⟩; have hx1 := (hx.blk.drewN nq).ext he1 (by simp [n1, n2]); have hc1 := hx1.cells; have hf1 := hx1.free; simp only [SM.cells] at hc1))
    go_end0
    refine ⟨rfl, hs1.set _ n1 n2, ⟨?_, hx.ok.item, hx.ok.h, hx.ok.link⟩, (((Ext.refl _ w).drewN nq).trans he1 (by simp)).setCell _ _ (.inl (by simp))⟩
    exact hx1.set 4 _

omit hσ n1 n2 in
theorem SMStep_0 (hp : m.pc = 0) : Calls Try.prog 222 #[.pointer (some ⟨x, 0, none⟩), .pointer (some ⟨σ.s, 0, none⟩)] w fun e w' => e = .returned (.bool true) ∧ w = w' := by
  obtain ⟨head, item, h, link, tries, pc⟩ := m
  obtain rfl : pc = 0 := hp
  have hc := hx.blk.cells
  simp only [SM.cells, SM.nx] at hc
  clear hx
  go_enter Try.func222, Try.ntmps222
  go_wp2
  go_ret
  exact ⟨rfl, rfl⟩

theorem SMStep_1 (hμ : IsMap w μ) (hp : m.pc = 1) : Calls Try.prog 222 #[.pointer (some ⟨x, 0, none⟩), .pointer (some ⟨σ.s, 0, none⟩)] w fun e w' =>
    e = .returned (.bool (decide ((SM.step (lk μ b) σ m).2.pc = 0))) ∧ IsSt w' (SM.step (lk μ b) σ m).1 ∧ IsSM w' μ b x (SM.step (lk μ b) σ m).2 ∧ Ext [σ.s, σ.sb, x] w w' := by
  obtain ⟨head, item, h, link, tries, pc⟩ := m
  obtain rfl : pc = 1 := hp
  have HC := Lib.hid (pushHead_c hσ hx n1 n2)
  have hc := hx.blk.cells
  simp only [SM.cells, SM.nx] at hc
  simp only [SM.step] at HC ⊢
  simp only [decide_false, Nat.reduceEqDiff]
  go_enter Try.func222, Try.ntmps222
  go_wp2_with (go_at_call 147; refine HC.out.mono ?_; rintro e w1 ⟨rfl, hs1, hx1, he1⟩; have hc1 := hx1.blk.cells; simp only [SM.cells, SM.nx] at hc1)
  go_ret
  exact ⟨rfl, hs1, hx1, he1⟩

theorem SMStep_2 (hμ : IsMap w μ) (hp : m.pc = 2) : Calls Try.prog 222 #[.pointer (some ⟨x, 0, none⟩), .pointer (some ⟨σ.s, 0, none⟩)] w fun e w' =>
    e = .returned (.bool (decide ((SM.step (lk μ b) σ m).2.pc = 0))) ∧ IsSt w' (SM.step (lk μ b) σ m).1 ∧ IsSM w' μ b x (SM.step (lk μ b) σ m).2 ∧ Ext [σ.s, σ.sb, x] w w' := by
  obtain ⟨head, item, h, link, tries, pc⟩ := m
  obtain rfl : pc = 2 := hp
  have HC := Lib.hid (pushLink_c hσ hx n1 n2 hμ)
  have hc := hx.blk.cells
  simp only [SM.cells, SM.nx] at hc
  simp only [SM.step] at HC ⊢
  simp only [decide_false, Nat.reduceEqDiff]
  go_enter Try.func222, Try.ntmps222
  go_wp2_with (go_at_call 166; refine HC.out.mono ?_; rintro e w1 ⟨rfl, hs1, hx1, he1⟩; have hc1 := hx1.blk.cells; simp only [SM.cells, SM.nx] at hc1)
  go_ret
  exact ⟨rfl, hs1, hx1, he1⟩

theorem SMStep_3 (hμ : IsMap w μ) (hp : m.pc = 3) : Calls Try.prog 222 #[.pointer (some ⟨x, 0, none⟩), .pointer (some ⟨σ.s, 0, none⟩)] w fun e w' =>
    e = .returned (.bool (decide ((SM.step (lk μ b) σ m).2.pc = 0))) ∧ IsSt w' (SM.step (lk μ b) σ m).1 ∧ IsSM w' μ b x (SM.step (lk μ b) σ m).2 ∧ Ext [σ.s, σ.sb, x] w w' := by
  obtain ⟨head, item, h, link, tries, pc⟩ := m
  obtain rfl : pc = 3 := hp
  have HC := Lib.hid (pushSwap_c hσ hx n1 n2)
  have hc := hx.blk.cells
  simp only [SM.cells, SM.nx] at hc
  simp only [SM.step] at HC ⊢
  generalize σ.swaps head h = q at HC ⊢
  cases q
  all_goals
    simp only [pcIf, if_true, if_false, Bool.false_eq_true, decide_true, decide_false, Nat.reduceEqDiff] at HC ⊢
    go_enter Try.func222, Try.ntmps222
    go_wp2_with (go_at_call 186; refine HC.out.mono ?_; rintro e w1 ⟨rfl, hs1, hx1, he1⟩; have hc1 := hx1.blk.cells; simp only [SM.cells, SM.nx] at hc1)
    go_ret
    exact ⟨rfl, hs1, hx1, he1⟩

theorem SMStep_4 (hμ : IsMap w μ) (hp : m.pc = 4) : Calls Try.prog 222 #[.pointer (some ⟨x, 0, none⟩), .pointer (some ⟨σ.s, 0, none⟩)] w fun e w' =>
    e = .returned (.bool (decide ((SM.step (lk μ b) σ m).2.pc = 0))) ∧ IsSt w' (SM.step (lk μ b) σ m).1 ∧ IsSM w' μ b x (SM.step (lk μ b) σ m).2 ∧ Ext [σ.s, σ.sb, x] w w' := by
  obtain ⟨head, item, h, link, tries, pc⟩ := m
  obtain rfl : pc = 4 := hp
  have HC := Lib.hid (popHead_c hσ hx n1 n2)
  have hc := hx.blk.cells
  simp only [SM.cells, SM.nx] at hc
  simp only [SM.step] at HC ⊢
  generalize decide (wLo (σ.load head) = 0) = q at HC ⊢
  cases q
  all_goals
    simp only [pcIf, if_true, if_false, Bool.false_eq_true, decide_true, decide_false, Nat.reduceEqDiff] at HC ⊢
    go_enter Try.func222, Try.ntmps222
    go_wp2_with (go_at_call 140; refine HC.out.mono ?_; rintro e w1 ⟨rfl, hs1, hx1, he1⟩; have hc1 := hx1.blk.cells; simp only [SM.cells, SM.nx] at hc1)
    go_ret
    exact ⟨rfl, hs1, hx1, he1⟩

theorem SMStep_5 (hμ : IsMap w μ) (hp : m.pc = 5) : Calls Try.prog 222 #[.pointer (some ⟨x, 0, none⟩), .pointer (some ⟨σ.s, 0, none⟩)] w fun e w' =>
    e = .returned (.bool (decide ((SM.step (lk μ b) σ m).2.pc = 0))) ∧ IsSt w' (SM.step (lk μ b) σ m).1 ∧ IsSM w' μ b x (SM.step (lk μ b) σ m).2 ∧ Ext [σ.s, σ.sb, x] w w' := by
  obtain ⟨head, item, h, link, tries, pc⟩ := m
  obtain rfl : pc = 5 := hp
  have HC := Lib.hid (popLink_c hσ hx n1 n2 hμ)
  have hc := hx.blk.cells
  simp only [SM.cells, SM.nx] at hc
  simp only [SM.step] at HC ⊢
  simp only [decide_false, Nat.reduceEqDiff]
  go_enter Try.func222, Try.ntmps222
  go_wp2_with (go_at_call 164; refine HC.out.mono ?_; rintro e w1 ⟨rfl, hs1, hx1, he1⟩; have hc1 := hx1.blk.cells; simp only [SM.cells, SM.nx] at hc1)
  go_ret
  exact ⟨rfl, hs1, hx1, he1⟩

theorem SMStep_6 (hμ : IsMap w μ) (hp : m.pc = 6) : Calls Try.prog 222 #[.pointer (some ⟨x, 0, none⟩), .pointer (some ⟨σ.s, 0, none⟩)] w fun e w' =>
    e = .returned (.bool (decide ((SM.step (lk μ b) σ m).2.pc = 0))) ∧ IsSt w' (SM.step (lk μ b) σ m).1 ∧ IsSM w' μ b x (SM.step (lk μ b) σ m).2 ∧ Ext [σ.s, σ.sb, x] w w' := by
  obtain ⟨head, item, h, link, tries, pc⟩ := m
  obtain rfl : pc = 6 := hp
  have HC := Lib.hid (popSwap_c hσ hx n1 n2)
  have hc := hx.blk.cells
  simp only [SM.cells, SM.nx] at hc
  simp only [SM.step] at HC ⊢
  generalize σ.swaps head h = q at HC ⊢
  cases q
  all_goals
    simp only [pcIf, if_true, if_false, Bool.false_eq_true, decide_true, decide_false, Nat.reduceEqDiff] at HC ⊢
    go_enter Try.func222, Try.ntmps222
    go_wp2_with (go_at_call 185; refine HC.out.mono ?_; rintro e w1 ⟨rfl, hs1, hx1, he1⟩; have hc1 := hx1.blk.cells; simp only [SM.cells, SM.nx] at hc1)
    go_ret
    exact ⟨rfl, hs1, hx1, he1⟩

theorem SMStep_c (hμ : IsMap w μ) (hp : m.pc ≤ 6) : Calls Try.prog 222 #[.pointer (some ⟨x, 0, none⟩), .pointer (some ⟨σ.s, 0, none⟩)] w fun e w' =>
    e = .returned (.bool (decide ((SM.step (lk μ b) σ m).2.pc = 0))) ∧ IsSt w' (SM.step (lk μ b) σ m).1 ∧ IsSM w' μ b x (SM.step (lk μ b) σ m).2 ∧ Ext [σ.s, σ.sb, x] w w' := by
  have h : m.pc = 0 ∨ m.pc = 1 ∨ m.pc = 2 ∨ m.pc = 3 ∨ m.pc = 4 ∨ m.pc = 5 ∨ m.pc = 6 := by omega
  rcases h with h | h | h | h | h | h | h
  · refine (SMStep_0 hx h).mono ?_
    rintro e w' ⟨rfl, rfl⟩
    have e1 : SM.step (lk μ b) σ m = (σ, m) := by unfold SM.step; rw [h]; rfl
    rw [e1]
    exact ⟨by simp [h], hσ, hx, Ext.refl _ _⟩
  · exact SMStep_1 hσ hx n1 n2 hμ h
  · exact SMStep_2 hσ hx n1 n2 hμ h
  · exact SMStep_3 hσ hx n1 n2 hμ h
  · exact SMStep_4 hσ hx n1 n2 hμ h
  · exact SMStep_5 hσ hx n1 n2 hμ h
  · exact SMStep_6 hσ hx n1 n2 hμ h
end
theorem SM.step_pc {lk : Int → Int} {σ : St} {m : SM} (h : m.pc ≤ 6) : (SM.step lk σ m).2.pc ≤ 6 := by
  unfold SM.step pcIf
  split <;> simp <;> (try split) <;> omega
theorem SM.step_s (lk : Int → Int) (σ : St) (m : SM) : (SM.step lk σ m).1.s = σ.s := by
  unfold SM.step
  split <;> simp
theorem SM.step_sb (lk : Int → Int) (σ : St) (m : SM) : (SM.step lk σ m).1.sb = σ.sb := by
  unfold SM.step
  split <;> simp
theorem SM.step_ok {lk : Int → Int} {σ : St} {m : SM} {w : World} (hσ : IsSt w σ) (h : m.Ok) : (SM.step lk σ m).2.Ok := by
  unfold SM.step
  split
  · exact ⟨h.item, hσ.load_u64 _, wLo_u32 _⟩
  · exact ⟨h.item, h.h, h.link⟩
  · exact ⟨h.item, h.h, h.link⟩
  · exact ⟨wLo_u32 _, hσ.load_u64 _, h.link⟩
  · exact ⟨h.item, h.h, ⟨Int.emod_nonneg _ (by omega), Int.emod_lt_of_pos _ (by omega)⟩⟩
  · exact ⟨h.item, h.h, h.link⟩
  · exact h
theorem Item_c {w : World} {μ : Mp} {b : Bool} {x : Nat} {m : SM} (hx : IsSM w μ b x m) (hp : m.pc = 0) : Calls Try.prog 142 #[.pointer (some ⟨x, 0, none⟩)] w fun e w' => e = .returned (.int .i64 m.item) ∧ w = w' := by
  obtain ⟨head, item, h, link, tries, pc⟩ := m
  obtain rfl : pc = 0 := hp
  have hc := hx.blk.cells
  obtain ⟨i0, i1⟩ := hx.ok.item
  simp only [SM.cells, SM.nx] at hc i0 i1
  clear hx
  go_enter Try.func142, Try.ntmps142
  go_wp2
  go_ret
  exact ⟨rfl, rfl⟩
end Go.Proofs.Ytcgnficlcgmffaa
