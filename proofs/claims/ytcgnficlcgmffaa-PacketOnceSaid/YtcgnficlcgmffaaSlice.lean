/-
  Slices that own a block from its head on; append, with what becomes of memory told block by block.
-/
import Derived.Deep.AppendSrc
import Derived.Deep.Upon
import Derived.Test.YtcgnficlcgmffaaBase
namespace Go.Proofs.Ytcgnficlcgmffaa
open Go.RowKit

/-- v is a slice of n elements (of 'size' cells each, of type E) that has its block b from the head on; or nil. -/
def Sl (w : World) (E size : Nat) (b : Option Nat) (v : Value) (n : Nat) (xs : List Value) : Prop :=
  xs.length = n * size ∧ match b with
  | none => v = .slice none 0 0 ∧ n = 0
  | some g => ∃ cap spare, v = .slice (some ⟨g, 0, none⟩) n cap ∧ Blk w g (xs ++ spare) E ∧ (xs ++ spare).length = cap * size ∧ n ≤ cap ∧ cap ≤ maxLen

section
variable {w w' : World} {E size : Nat} {b : Option Nat} {v : Value} {n : Nat} {xs : List Value}
theorem Sl.nil (w : World) (E size : Nat) : Sl w E size none (.slice none 0 0) 0 [] := ⟨by simp, rfl, rfl⟩
theorem Sl.ext {S : List Nat} (h : Sl w E size b v n xs) (he : Ext S w w') (hb : ∀ g, b = some g → g ∉ S) : Sl w' E size b v n xs := by
  obtain ⟨h1, h2⟩ := h
  refine ⟨h1, ?_⟩
  cases b with
  | none => exact h2
  | some g =>
    obtain ⟨cap, spare, e, hB, k⟩ := h2
    exact ⟨cap, spare, e, hB.ext he (hb g rfl), k⟩
theorem Sl.drewN (h : Sl w E size b v n xs) (m : Nat) : Sl (w.drewN m) E size b v n xs := h.ext ((Ext.refl [] w).drewN m) (by simp)
theorem Sl.form (h : Sl w E size b v n xs) : ∃ a cap, v = .slice a n cap := by
  obtain ⟨_, k⟩ := h
  cases b with
  | none => obtain ⟨rfl, rfl⟩ := k; exact ⟨none, 0, rfl⟩
  | some g => obtain ⟨cap, spare, e, _⟩ := k; exact ⟨_, cap, e⟩
theorem Sl.lt (h : Sl w E size b v n xs) {g : Nat} (hb : b = some g) : g < w.heap.size := by
  subst hb
  obtain ⟨_, cap, spare, e, hB, _⟩ := h
  exact hB.lt
theorem Sl.of_blk {g cap : Nat} {spare : List Value} (hB : Blk w g (xs ++ spare) E) (hl : xs.length = n * size) (hc : (xs ++ spare).length = cap * size) (h1 : n ≤ cap) (h2 : cap ≤ maxLen) :
    Sl w E size (some g) (.slice (some ⟨g, 0, none⟩) n cap) n xs := ⟨hl, cap, spare, rfl, hB, hc, h1, h2⟩
end

theorem blk_setCells {w : World} {b : Nat} {T : TypeId} : ∀ (vs : List Value) (cs : List Value) (o : Nat), Blk w b cs T → o + vs.length ≤ cs.length →
    Blk (w.setCells b o vs) b (cs.take o ++ vs ++ cs.drop (o + vs.length)) T := by
  intro vs
  induction vs generalizing w with
  | nil =>
    intro cs o h hl
    simp only [World.setCells]
    exact h.congr (by simp)
  | cons v r ih =>
    intro cs o h hl
    simp only [List.length_cons] at hl
    simp only [World.setCells]
    refine (ih (cs.set o v) (o + 1) (h.set o v) (by simp; omega)).congr ?_
    have ho : o < cs.length := by omega
    rw [List.take_set, List.drop_set, if_pos (by omega)]
    have h1 : (cs.take (o + 1)).set o v = cs.take o ++ [v] := by
      have hm : (cs.take o).length = o := by simp; omega
      rw [List.take_succ_eq_append_getElem ho, List.set_append_right _ _ (by omega), hm, Nat.sub_self]
      rfl
    rw [h1]
    simp [Nat.add_comm, Nat.add_left_comm]
theorem ext_setCells {S : List Nat} {w0 : World} {b : Nat} : ∀ (vs : List Value) (o : Nat) (w : World), Ext S w0 w → b ∈ S ∨ w0.heap.size ≤ b → Ext S w0 (w.setCells b o vs)
  | [], _, _, h, _ => h
  | v :: r, o, w, h, hb => ext_setCells r (o + 1) _ (h.setCell ⟨b, o, none⟩ v hb) hb

/-- append, told block by block. -/
theorem run_append_sl {P : Program} (w : World) (t tx ty E : TypeId) (i : TypeInfo) (z : Value) (size bytes : Nat) (ht : P.underlying t = some (.slice E)) (hi : P.info? E = some i) (hz : i.zero = some z)
    (hsize : i.size = size) (hby : i.bytes = bytes) (hzs : z.cells.size = size) (hsz : 0 < size)
    {b : Option Nat} {v : Value} {n : Nat} {xs : List Value} (hv : Sl w E size b v n xs) (x : Value) (m : Nat) (news : List Value) (hs : Src P size tx x m news w)
    (h63 : n + m ≤ maxLen) (hbytes : (n + m) * bytes ≤ 140737488355328) :
    ∃ v' b' w', (Builtin.append_ #[t, tx] ty #[v, x]).run P w = .ok v' w' ∧ Sl w' E size b' v' (n + m) (xs ++ news) ∧ Ext b.toList w w' ∧ (b' = b ∨ b' = some w.heap.size) := by
  subst hsize
  subst hby
  have hsmall : n + m ≤ 9223372036854775807 := by simp only [maxLen] at h63; omega
  have hlen : (xs ++ news).length = (n + m) * i.size := by rw [List.length_append, hv.1, hs.newsLen, Nat.add_mul]
  have grown : ∀ (old : Nat), old < n + m →
      Sl (w.drew.alloc (.cells ((xs ++ news).toArray ++ Builtin.zeroCells z.cells (grownCap w (n + m) old E - (n + m))) E)) E i.size (some w.heap.size)
        (.slice (some ⟨w.heap.size, 0, none⟩) (n + m) (grownCap w (n + m) old E)) (n + m) (xs ++ news) := by
    intro old ho
    have hge := grownCap_ge w (n + m) old E
    have hcm : grownCap w (n + m) old E ≤ maxLen := grownCap_le_maxLen w (n + m) old E h63
    refine ⟨hlen, _, (Builtin.zeroCells z.cells (grownCap w (n + m) old E - (n + m))).toList, rfl, ?_, ?_, hge, hcm⟩
    · refine (Blk.new w.drew ((xs ++ news) ++ (Builtin.zeroCells z.cells (grownCap w (n + m) old E - (n + m))).toList) E).congr rfl |> fun h => ?_
      have e : ((xs ++ news) ++ (Builtin.zeroCells z.cells (grownCap w (n + m) old E - (n + m))).toList).toArray = (xs ++ news).toArray ++ Builtin.zeroCells z.cells (grownCap w (n + m) old E - (n + m)) := by
        apply Array.ext'; simp
      rw [e] at h
      exact h
    · rw [List.length_append, hlen]
      have := size_zeroCells z.cells (grownCap w (n + m) old E - (n + m))
      rw [Array.length_toList, this, hzs, ← Nat.add_mul]
      congr 1
      omega
  cases b with
  | none =>
    obtain ⟨h1, rfl, rfl⟩ := hv
    have hx : xs = [] := List.eq_nil_of_length_eq_zero (by simpa using h1)
    subst hx
    by_cases hm : m = 0
    · subst hm
      have hn : news = [] := List.eq_nil_of_length_eq_zero (by simpa using hs.newsLen)
      subst hn
      refine ⟨.slice none 0 0, none, w, run_append_nothing w t tx ty E i ht hi none 0 0 (Nat.le_refl 0) x hs, Sl.nil w E i.size, Ext.refl _ _, .inl rfl⟩
    · have hr := run_append_grow_src (P := P) w t tx ty E i z ht hi hz none 0 0 [] (run_firstCells_none _ _ _ _ _) x m news hs (by omega) (by omega) (growslice_fits (by omega) hbytes)
      refine ⟨_, some w.heap.size, _, hr, ?_, (Ext.refl _ w).drew.alloc _, .inr rfl⟩
      exact grown 0 (by omega)
  | some g =>
    obtain ⟨h1, cap, spare, rfl, hB, hc, h3, h4⟩ := hv
    by_cases hroom : n + m ≤ cap
    · have hfit : n * i.size + news.length ≤ (xs ++ spare).length := by rw [hs.newsLen, hc, ← Nat.add_mul]; exact Nat.mul_le_mul_right _ hroom
      have hr := run_append_room_src (P := P) w t tx ty E i ht hi g 0 n cap x m news hs hroom
        (fun j hj => by
          have hlt : 0 + n * i.size + j < (xs ++ spare).length := by omega
          rw [hB.cells, List.getElem?_eq_getElem hlt]; rfl) (fun j hj => hB.free _)
      refine ⟨_, some g, _, hr, ⟨hlen, cap, (xs ++ spare).drop (0 + n * i.size + news.length), rfl, ?_, ?_, hroom, h4⟩, ext_setCells _ _ _ (Ext.refl _ _) (.inl (by simp)), .inl rfl⟩
      · refine (blk_setCells news (xs ++ spare) (0 + n * i.size) hB (by omega)).congr ?_
        rw [Nat.zero_add, ← h1, List.take_left]
      · rw [List.length_append, List.length_append, List.length_drop, ← hc]
        rw [h1]
        omega
    · have holds : ∀ j u, xs[j]? = some u → w.drew.cell? ((⟨g, 0, none⟩ : Addr).add j) = some u := by
        intro j u hj
        have hlt : j < xs.length := (List.getElem?_eq_some_iff.1 hj).1
        have hd : w.drew.cell? ⟨g, j, none⟩ = some u := by
          rw [World.cell?_drew, hB.cells, List.getElem?_append_left hlt]
          exact hj
        rcases Nat.eq_zero_or_pos j with rfl | hp
        · exact hd
        · rw [Addr.add, if_neg (by omega), Nat.zero_add]; exact hd
      have hr := run_append_grow_src (P := P) w t tx ty E i z ht hi hz (some ⟨g, 0, none⟩) n cap xs (run_firstCells_some _ _ _ _ _ _ _ h1 holds) x m news hs (by omega) (by omega) (growslice_fits (by omega) hbytes)
      exact ⟨_, some w.heap.size, _, hr, grown cap (by omega), (Ext.refl _ w).drew.alloc _, .inr rfl⟩

theorem wpList_append_sl {P : Program} {ops : Array Oper} {rest : List Oper} {o : Oper} {a : Act} {Q : Exit → Act → World → Prop} (w : World) (hgd : o.guard = none) (s x : Operand) (t tx : TypeId)
    (ho : o.op = .call { callee := .builtin .append, args := #[s, x], argTypes := #[t, tx] }) (E : TypeId) (i : TypeInfo) (z : Value) (size bytes : Nat) (ht : P.underlying t = some (.slice E)) (hi : P.info? E = some i) (hz : i.zero = some z)
    (hsize : i.size = size) (hby : i.bytes = bytes) (hzs : z.cells.size = size) (hsz : 0 < size)
    {b : Option Nat} {n : Nat} {xs : List Value} (hv : Sl w E size b (a.eval s) n xs) (m : Nat) (news : List Value) (hs : Src P size tx (a.eval x) m news w)
    (h63 : n + m ≤ maxLen) (hbytes : (n + m) * bytes ≤ 140737488355328)
    (h : ∀ v' b' w', Sl w' E size b' v' (n + m) (xs ++ news) → Ext b.toList w w' → (b' = b ∨ b' = some w.heap.size) → wpList P ops Q rest (a.put o.dst v') w') : wpList P ops Q (o :: rest) a w := by
  refine wpList_plain hgd fun K hK => ?_
  obtain ⟨v', b', w', hr, h2, h3, h4⟩ := run_append_sl (P := P) w t tx o.type E i z size bytes ht hi hz hsize hby hzs hsz hv (a.eval x) m news hs h63 hbytes
  unfold Oper.wp execOp
  simp only [ho, resolve, invoke, builtin, Sem.run_bind, Sem.run_pure, Result.andThen_ok, List.map_toArray, List.map_cons, List.map_nil, hr]
  exact hK _ _ (h v' b' w' h2 h3 h4)

theorem wp_append_sl {P : Program} {o : Oper} {a : Act} {K : Act → World → Prop} {Q : Exit → Act → World → Prop} (w : World) (s x : Operand) (t tx : TypeId)
    (ho : o.op = .call { callee := .builtin .append, args := #[s, x], argTypes := #[t, tx] }) (E : TypeId) (i : TypeInfo) (z : Value) (size bytes : Nat) (ht : P.underlying t = some (.slice E)) (hi : P.info? E = some i) (hz : i.zero = some z)
    (hsize : i.size = size) (hby : i.bytes = bytes) (hzs : z.cells.size = size) (hsz : 0 < size)
    {b : Option Nat} {n : Nat} {xs : List Value} (hv : Sl w E size b (a.eval s) n xs) (m : Nat) (news : List Value) (hs : Src P size tx (a.eval x) m news w)
    (h63 : n + m ≤ maxLen) (hbytes : (n + m) * bytes ≤ 140737488355328)
    (h : ∀ v' b' w', Sl w' E size b' v' (n + m) (xs ++ news) → Ext b.toList w w' → (b' = b ∨ b' = some w.heap.size) → K (a.put o.dst v') w') : o.wp P a w K Q := by
  obtain ⟨v', b', w', hr, h2, h3, h4⟩ := run_append_sl (P := P) w t tx o.type E i z size bytes ht hi hz hsize hby hzs hsz hv (a.eval x) m news hs h63 hbytes
  unfold Oper.wp execOp
  simp only [ho, resolve, invoke, builtin, Sem.run_bind, Sem.run_pure, Result.andThen_ok, List.map_toArray, List.map_cons, List.map_nil, hr]
  exact h v' b' w' h2 h3 h4

/-- What an owned slice yields. -/
theorem Sl.src {P : Program} {w : World} {E size : Nat} {b : Option Nat} {v : Value} {n : Nat} {xs : List Value} (h : Sl w E size b v n xs) {tx e' : TypeId} (hk : P.underlying tx = some (.slice e')) (h1 : ∀ u ∈ xs, u.oneCell' = true) :
    Src P size tx v n xs w := by
  obtain ⟨hl, h2⟩ := h
  cases b with
  | none =>
    obtain ⟨rfl, rfl⟩ := h2
    have hx : xs = [] := List.eq_nil_of_length_eq_zero (by simpa using hl)
    subst hx
    exact Src.ofNil w hk 0
  | some g =>
    obtain ⟨cap, spare, rfl, hB, _⟩ := h2
    refine Src.ofSlice w hk ⟨g, 0, none⟩ n cap xs hl (fun j u hj => ?_) h1
    have hlt : j < xs.length := (List.getElem?_eq_some_iff.1 hj).1
    have hd : w.cell? ⟨g, j, none⟩ = some u := by
      rw [hB.cells, List.getElem?_append_left hlt]
      exact hj
    rcases Nat.eq_zero_or_pos j with rfl | hp
    · exact hd
    · rw [Addr.add, if_neg (by omega), Nat.zero_add]; exact hd
theorem Blk.src1 {P : Program} {w : World} {b : Nat} {T : TypeId} {x : Value} (h : Blk w b [x] T) {tx e' : TypeId} (hk : P.underlying tx = some (.slice e')) (h1 : x.oneCell' = true) :
    Src P 1 tx (.slice (some ⟨b, 0, none⟩) 1 1) 1 [x] w := by
  refine Src.ofSlice w hk ⟨b, 0, none⟩ 1 1 [x] (by simp) (fun j u hj => ?_) (by simpa using h1)
  have hd : w.cell? ⟨b, j, none⟩ = some u := by rw [h.cells]; exact hj
  rcases Nat.eq_zero_or_pos j with rfl | hp
  · exact hd
  · rw [Addr.add, if_neg (by omega), Nat.zero_add]; exact hd
theorem nmem_toList {b : Option Nat} {x : Nat} (h : ∀ g, b = some g → g ≠ x) : x ∉ b.toList := by
  intro hm
  cases b with
  | none => simp at hm
  | some g => simp at hm; exact h g rfl hm.symm
theorem Ext.ofOpt {b : Option Nat} {a w w' : World} (h : Ext [] a w) (he : Ext b.toList w w') (hb : ∀ g, b = some g → a.heap.size ≤ g) : Ext [] a w' :=
  h.trans he fun x hx => .inr (by cases b with
    | none => simp at hx
    | some g => simp at hx; rw [hx]; exact hb g rfl)
end Go.Proofs.Ytcgnficlcgmffaa
