/-
  Package words: numbers in words: contracts.
-/
import Derived.Test.YtcgnficlcgmffaaChecked
import Derived.Test.YtcgnficlcgmffaaBase
namespace Go.Proofs.Ytcgnficlcgmffaa
open Go.RowKit

theorem part32 (x : Int) (w : World) (h : U64 x) : Calls Try.prog 116 #[.int .u64 x, .int .i64 32] w fun e w' => e = .returned (.tuple #[.int .u64 (wHi x), .int .u64 (wLo x)]) ∧ Dr w w' := by
  have hl := and_low32 h
  have HL := Lib.hid hl
  clear hl
  go_enter Try.func116, Try.ntmps116
  go_wp2
  go_quiet (fail)
  go_wp2
  go_ret2
  refine ⟨?_, nq, rfl⟩
  rw [HL.out]
  rfl

theorem u32_of_hi {x : Int} (h : U64 x) : wHi x % 4294967296 = wHi x := by
  have := wHi_u32 h; unfold U32 at this; omega
theorem u32_of_lo (x : Int) : wLo x % 4294967296 = wLo x := by
  have := wLo_u32 x; unfold U32 at this; omega

theorem Split_c (x : Int) (w : World) (h : U64 x) : Calls Try.prog 54 #[.int .u64 x] w fun e w' => e = .returned (.tuple #[.int .u32 (wHi x), .int .u32 (wLo x)]) ∧ Dr w w' := by
  have H1 := Lib.hid (u32_of_hi h)
  have H2 := Lib.hid (u32_of_lo x)
  go_enter Try.func54, Try.ntmps54
  go_wp2_with (go_at_call 116; refine (part32 _ _ h).mono ?_; rintro e w1 ⟨rfl, nq, rfl⟩)
  go_ret2
  refine ⟨?_, nq, rfl⟩
  rw [H1.out, H2.out]
  rfl

theorem or_pair {h l : Int} (a : U32 h) (b : U32 l) : bits .or .u64 (IntKind.u64.wrap (IntKind.u64.wrap h * 4294967296)) (IntKind.u64.wrap l) = wPair h l := by
  unfold U32 at a b
  obtain ⟨n, rfl⟩ := Int.eq_ofNat_of_zero_le a.1
  obtain ⟨m, rfl⟩ := Int.eq_ofNat_of_zero_le b.1
  rw [IntWalk.u64_in (n : Int) (by omega), IntWalk.u64_in (m : Int) (by omega), IntWalk.u64_in _ (by omega)]
  unfold wPair
  have hm : m < 2 ^ 32 := by omega
  rw [show ((n : Int) * 4294967296) = ((n * 4294967296 : Nat) : Int) from by omega, u64_or_nat _ _ (by omega) (by omega)]
  have := Nat.two_pow_add_eq_or_of_lt hm n
  rw [show n * 4294967296 = 2 ^ 32 * n from by omega, ← this]
  omega

theorem Pair_c (h l : Int) (w : World) (a : U32 h) (b : U32 l) : Calls Try.prog 80 #[.int .u32 h, .int .u32 l] w fun e w' => e = .returned (.int .u64 (wPair h l)) ∧ w = w' := by
  have HL := Lib.hid (or_pair a b)
  go_enter Try.func80, Try.ntmps80
  go_wp2
  go_ret
  refine ⟨?_, rfl⟩
  rw [← HL.out]
  rfl

theorem turn_wrap {x : Int} (h : U64 x) : IntKind.u32.wrap (wHi x + 1) = (wHi x + 1) % 4294967296 := IntKind.wrap_u32 _
theorem Turn_c (x l : Int) (w : World) (h : U64 x) (b : U32 l) : Calls Try.prog 204 #[.int .u64 x, .int .u32 l] w fun e w' => e = .returned (.int .u64 (wTurn x l)) ∧ Dr w w' := by
  have H1 := Lib.hid (turn_wrap h)
  have hu : U32 (IntKind.u32.wrap (wHi x + 1)) := by rw [turn_wrap h]; unfold U32; omega
  go_enter Try.func204, Try.ntmps204
  go_wp2_with (first | (go_at_call 54; refine (Split_c _ _ h).mono ?_; rintro e w1 ⟨rfl, nq, rfl⟩) | (go_at_call 80; refine (Pair_c _ _ _ hu b).mono ?_; rintro e w1 ⟨rfl, rfl⟩))
  go_ret
  refine ⟨?_, nq, rfl⟩
  unfold wTurn
  rw [← H1.out]
  rfl

theorem equalIn_arr2 (d : Nat) (x y : Int) (W : World) : (Op.equalIn (d + 2) 224 (.agg #[.int .u64 x, .int .u64 0]) (.agg #[.int .u64 y, .int .u64 0])).run Try.prog W = .ok (x == y) W := by
  have h1 : Try.prog.underlying 224 = some (.array 2 39) := by kernel_rfl
  have h2 : Try.prog.underlying 39 = some (.int .u64) := by kernel_rfl
  have h3 : ∀ W, (sizeOf 39).run Try.prog W = .ok 1 W := fun _ => by kernel_rfl
  have h4 : ∀ (a b : Value) W, (part 39 #[a, b] 0).run Try.prog W = .ok a W := fun _ _ _ => by kernel_rfl
  have h5 : ∀ (a b : Value) W, (part 39 #[a, b] 1).run Try.prog W = .ok b W := fun _ _ _ => by kernel_rfl
  have h6 : ∀ (d : Nat) a b W, (Op.equalIn (d + 1) 39 (.int .u64 a) (.int .u64 b)).run Try.prog W = .ok (a == b) W := fun d a b W => run_equalIn_int W d 39 .u64 .u64 a b h2
  unfold Op.equalIn
  by_cases hxy : x = y
  · subst hxy
    simp [run_underlying h1, h3, h4, h5, h6, List.range'_succ]
  · have hb : (x == y) = false := by simpa using hxy
    simp [run_underlying h1, h3, h4, h6, List.range'_succ, hb]
theorem eql_arr2 (x y : Int) (W : World) : (binOp .eql 224 (.agg #[.int .u64 x, .int .u64 0]) (.agg #[.int .u64 y, .int .u64 0])).run Try.prog W = .ok (.bool (x == y)) W := by
  have h := equalIn_arr2 9998 x y W
  rw [run_eql_struct, h]
  rfl
theorem Ahead_c (x y : Int) (w : World) (h : U64 x) (k : U64 y) : Calls Try.prog 188 #[.int .u64 x, .int .u64 y] w fun e w' => e = .returned (.int .i64 (wAhead x y)) ∧ w = w' := by
  by_cases hxy : x = y
  · subst hxy
    have hz : wAhead x x = 0 := by unfold wAhead; rw [Int.sub_self]; decide +kernel
    rw [hz]
    have he := eql_arr2 x x
    have hb : (x == x) = true := by simp
    clear hz h k
    go_enter Try.func188, Try.ntmps188
    go_wp2
    go_ret
    exact ⟨rfl, rfl⟩
  · have hb : (x == y) = false := by simpa using hxy
    have he := eql_arr2 x y
    clear h k hxy
    go_enter Try.func188, Try.ntmps188
    go_wp2
    go_ret
    exact ⟨rfl, rfl⟩
end Go.Proofs.Ytcgnficlcgmffaa
