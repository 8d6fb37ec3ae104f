/-
  All words as they are at first (plain).
-/
import Derived.Test.YtcgnficlcgmffaaPlace
import Derived.Test.YtcgnficlcgmffaaPk
namespace Go.Proofs.Ytcgnficlcgmffaa
open Go.RowKit

theorem plc_get {t : Thing} : ∀ {l : List Thing} {k : Nat}, t ∈ l → (k : Int) ≤ plc t l k ∧ plc t l k < k + l.length ∧ l[(plc t l k).toNat - k]? = some t
  | [], _, h => by simp at h
  | a :: l, k, h => by
    by_cases e : a = t
    · subst e
      simp [plc]
      omega
    · have h2 : t ∈ l := by
        rcases List.mem_cons.1 h with h | h
        · exact absurd h.symm e
        · exact h
      obtain ⟨h3, h4, h5⟩ := plc_get (k := k + 1) h2
      simp only [plc, e, if_false, List.length_cons]
      refine ⟨by omega, by omega, ?_⟩
      have h6 : (plc t l (k + 1)).toNat - k = (plc t l (k + 1)).toNat - (k + 1) + 1 := by omega
      rw [h6, List.getElem?_cons_succ]
      exact h5
theorem Chain.head_in {N : Int} {lk : Int → Int} {mem : List Int} {x : Int} {l : List Int} (h : Chain N lk mem x l) (hN : N ≤ 60) (h0 : 0 ≤ N) : 0 ≤ x ∧ x ≤ 60 := by
  cases l with
  | nil => have : x = 0 := h; omega
  | cons y ys => obtain ⟨rfl, a, b, _⟩ := h; omega
theorem nodup_map {α β : Type} (f : α → β) (hf : ∀ a b, f a = f b → a = b) : ∀ {l : List α}, l.Nodup → (l.map f).Nodup
  | [], _ => by simp
  | a :: l, h => by
    rw [List.nodup_cons] at h
    rw [List.map_cons, List.nodup_cons]
    refine ⟨fun hm => ?_, nodup_map f hf h.2⟩
    obtain ⟨b, hb, e⟩ := List.mem_map.1 hm
    rw [hf _ _ e] at hb
    exact h.1 hb
namespace Cfg
variable {c : Cfg}
theorem things_len (hc : c.Ok) : (c.things.length : Int) = c.lay.all := by
  have h1 := node0_eq hc
  have h2 := nd_len c c.nodes.toNat (Nat.le_refl _)
  have hn := hc.some
  have h3 : (c.rooms c.nodes.toNat).take c.nodes.toNat = c.rooms c.nodes.toNat := List.take_of_length_le (by rw [Cfg.rooms_len]; omega)
  have h4 : c.lay.all = c.lay.node0 + 4 * c.nodes + (c.rooms c.nodes.toNat).sum := rfl
  unfold things
  rw [List.length_append]
  rw [h3] at h2
  omega
theorem place_in (hc : c.Ok) {t : Thing} (h : t ∈ c.things) : 0 ≤ c.place t ∧ c.place t < c.lay.all := by
  obtain ⟨h1, h2, _⟩ := plc_get (k := 0) h
  have := things_len hc
  unfold place
  omega
theorem place_inj {t u : Thing} (h : t ∈ c.things) (e : c.place t = c.place u) : t = u := by
  obtain ⟨h1, h2, h3⟩ := plc_get (k := 0) h
  by_cases hu : u ∈ c.things
  · obtain ⟨_, _, k3⟩ := plc_get (k := 0) hu
    have e' : plc t c.things 0 = plc u c.things 0 := e
    rw [e'] at h3
    rw [h3] at k3
    exact Option.some.inj k3
  · exfalso
    have e' : plc t c.things 0 = plc u c.things 0 := e
    rw [plc_none hu] at e'
    omega
theorem place_out {t : Thing} (h : t ∉ c.things) : c.place t = -1 := plc_none h
theorem pgeo (hc : c.Ok) : PGeo c.lay c.lay.all.toNat := by
  have h := c.lay_ok hc
  have h1 := packets_eq hc
  have h2 : c.lay.node0 = c.lay.packets + c.lay.many * 6 := rfl
  have h3 := things_len hc
  have h4 := node0_eq hc
  have h5 : (c.things.length : Int) = (singles ++ lineA 6 c.mutators.toNat ++ lineA 7 5 ++ rowsOf c.mkRow c.markers.toNat ++ rowsOf pkRow c.lay.many.toNat).length + (rowsOf c.ndRow c.nodes.toNat).length := by
    unfold things; rw [List.length_append]; omega
  have h6 : 6 ≤ c.lay.packets := by
    rw [← h1]
    simp only [List.length_append, singles, List.length_cons, List.length_nil]
    omega
  exact ⟨h6, by omega, h.many⟩

theorem ld_pp (hc : c.Ok) {l : List Int} (hl : (l.length : Int) = c.lay.all) {t u : Thing} {v : Int} (ht : t ∈ c.things) : ld (pt l (c.place t) v) (c.place u) = if t = u then v else ld l (c.place u) := by
  have := place_in hc ht
  split
  · rename_i h
    subst h
    exact ld_pt_same this.1 (by omega)
  · rename_i h
    exact ld_pt_ne fun e => h (place_inj ht e)

/-- The spare packets are linked, up to the k-th. -/
def links (c : Cfg) : Nat → List Int → List Int
  | 0, l => l
  | k + 1, l => pt (c.links k l) (c.lay.link ((k : Int) + 1)) ((k : Int) + 2)
/-- The free cells are linked, from the v-th down. -/
def frees (c : Cfg) : Nat → List Int → List Int
  | 0, l => l
  | v + 1, l => c.frees v (pt (pt l (c.lay.next ((v : Int) + 1)) (ld l (c.lay.headAt (c.classOf ((v : Int) + 1))))) (c.lay.headAt (c.classOf ((v : Int) + 1))) ((v : Int) + 1))
def first0 (c : Cfg) : List Int := pt (List.replicate c.lay.all.toNat 0) 5 1
def first1 (c : Cfg) : List Int := c.links (c.lay.many.toNat - 1) c.first0
def first2 (c : Cfg) : List Int := pt (pt c.first1 (c.lay.state c.nodes) 1) (c.lay.header c.nodes) (c.lay.roomOf c.nodes)
def first (c : Cfg) : List Int := c.frees (c.nodes.toNat - 1) c.first2

theorem links_len (c : Cfg) : ∀ k l, (c.links k l).length = l.length
  | 0, _ => rfl
  | k + 1, l => by simp [links, links_len c k l]
theorem frees_len (c : Cfg) : ∀ v l, (c.frees v l).length = l.length
  | 0, _ => rfl
  | v + 1, l => by simp [frees, frees_len c v]
theorem all_pos (hc : c.Ok) : 0 ≤ c.lay.all := (c.lay_ok hc).all.1
theorem first0_len (hc : c.Ok) : ((c.first0).length : Int) = c.lay.all := by have := all_pos hc; simp [first0]; omega
theorem first1_len (hc : c.Ok) : ((c.first1).length : Int) = c.lay.all := by rw [first1, links_len]; exact first0_len hc
theorem first2_len (hc : c.Ok) : ((c.first2).length : Int) = c.lay.all := by simp only [first2, pt_length]; exact first1_len hc
theorem first_len (hc : c.Ok) : ((c.first).length : Int) = c.lay.all := by rw [first, frees_len]; exact first2_len hc

theorem many_pos (hc : c.Ok) : 1 ≤ c.lay.many := by
  have h1 := hc.markers
  have h2 := hc.some
  have h3 := hc.mutators
  have h4 := c.pieces_range hc.chunk.1 c.nodes.toNat
  have : c.lay.many = c.base + c.pieces c.nodes.toNat := rfl
  unfold base at this
  omega
theorem mem_link {p : Int} (h1 : 1 ≤ p) (h2 : p ≤ c.lay.many) : ((12, p, 0) : Thing) ∈ c.things := by
  rw [mem_things]; exact .inr (.inr (.inr (.inr (.inl (by omega)))))
theorem mem_single {k : Int} (h : 0 ≤ k ∧ k ≤ 5) : ((k, 0, 0) : Thing) ∈ c.things := by
  rw [mem_things]; exact .inl (by omega)
theorem mem_node {k v : Int} (hk : 14 ≤ k ∧ k ≤ 17) (h1 : 1 ≤ v) (h2 : v ≤ c.nodes) : ((k, v, 0) : Thing) ∈ c.things := by
  rw [mem_things]; exact .inr (.inr (.inr (.inr (.inr (by omega)))))
theorem mem_head {k : Int} (hk : 0 ≤ k ∧ k < 5) : ((7, k, 0) : Thing) ∈ c.things := by
  rw [mem_things]; exact .inr (.inr (.inl (by omega)))
theorem ld_zeros (n : Nat) (a : Int) : ld (List.replicate n 0) a = 0 := by
  unfold ld; split
  · rename_i h
    have : a.toNat < n := by simp at h; omega
    simp [this]
  · rfl
theorem ld_first0 (hc : c.Ok) (t : Thing) : ld c.first0 (c.place t) = if t = (5, 0, 0) then 1 else 0 := by
  have h5 : c.place (5, 0, 0) = 5 := place_single 5 (by omega)
  have := all_pos hc
  have e0 : c.first0 = pt (List.replicate c.lay.all.toNat 0) (c.place (5, 0, 0)) 1 := by rw [h5]; rfl
  rw [e0, ld_pp hc (by simp; omega) (mem_single (by omega))]
  by_cases e : t = (5, 0, 0)
  · rw [if_pos e, if_pos e.symm]
  · rw [if_neg e, if_neg (Ne.symm e), ld_zeros]
theorem ld_links (hc : c.Ok) (l : List Int) (hl : (l.length : Int) = c.lay.all) (t : Thing) : ∀ k : Nat, (k : Int) ≤ c.lay.many → ld (c.links k l) (c.place t) = if t.1 = 12 ∧ t.2.2 = 0 ∧ 1 ≤ t.2.1 ∧ t.2.1 ≤ k then t.2.1 + 1 else ld l (c.place t)
  | 0, _ => by
    rw [if_neg (by omega)]; rfl
  | k + 1, hk => by
    simp only [links]
    rw [← place_link hc, ld_pp hc (by rw [links_len]; exact hl) (mem_link (by omega) (by omega)), ld_links hc l hl t k (by omega)]
    obtain ⟨a, b, d⟩ := t
    simp only [Prod.mk.injEq]
    by_cases e : 12 = a ∧ (k : Int) + 1 = b ∧ 0 = d
    · rw [if_pos e, if_pos (by omega)]; omega
    · rw [if_neg e]
      by_cases e2 : a = 12 ∧ d = 0 ∧ 1 ≤ b ∧ b ≤ k
      · rw [if_pos e2, if_pos (by omega)]
      · rw [if_neg e2, if_neg (by omega)]
theorem ld_first1 (hc : c.Ok) (t : Thing) : ld c.first1 (c.place t) = if t = (5, 0, 0) then 1 else if t.1 = 12 ∧ t.2.2 = 0 ∧ 1 ≤ t.2.1 ∧ t.2.1 < c.lay.many then t.2.1 + 1 else 0 := by
  have hm := many_pos hc
  unfold first1
  rw [ld_links hc _ (first0_len hc) t _ (by omega), ld_first0 hc]
  obtain ⟨a, b, d⟩ := t
  simp only [Prod.mk.injEq]
  by_cases e : a = 5 ∧ b = 0 ∧ d = 0
  · rw [if_neg (by omega), if_pos e, if_pos e]
  · by_cases e2 : a = 12 ∧ d = 0 ∧ 1 ≤ b ∧ b < c.lay.many
    · rw [if_pos (by omega), if_neg e, if_pos e2]
    · rw [if_neg (by omega), if_neg e, if_neg e, if_neg e2]
/-- Words that free cells don't concern. -/
def fv (c : Cfg) (t : Thing) : Int :=
  if t = (5, 0, 0) then 1 else if t.1 = 12 ∧ t.2.2 = 0 ∧ 1 ≤ t.2.1 ∧ t.2.1 < c.lay.many then t.2.1 + 1 else if t = (15, c.nodes, 0) then 1 else if t = (14, c.nodes, 0) then c.lay.roomOf c.nodes else 0
theorem ld_first2 (hc : c.Ok) (t : Thing) : ld c.first2 (c.place t) = c.fv t := by
  have hn := hc.some
  unfold first2 fv
  have l1 := first1_len hc
  rw [← place_header hc, ← place_state hc, ld_pp hc (by rw [pt_length]; exact l1) (mem_node (by omega) hn (Int.le_refl _)), ld_pp hc l1 (mem_node (by omega) hn (Int.le_refl _)), ld_first1 hc]
  obtain ⟨a, b, d⟩ := t
  simp only [Prod.mk.injEq]
  by_cases e1 : 14 = a ∧ c.nodes = b ∧ 0 = d
  · rw [if_pos e1, if_neg (by omega), if_neg (by omega), if_neg (by omega), if_pos (by omega)]
  · rw [if_neg e1]
    by_cases e2 : 15 = a ∧ c.nodes = b ∧ 0 = d
    · rw [if_pos e2, if_neg (by omega), if_neg (by omega), if_pos (by omega)]
    · rw [if_neg e2]
      by_cases e3 : a = 5 ∧ b = 0 ∧ d = 0
      · rw [if_pos e3, if_pos e3]
      · rw [if_neg e3, if_neg e3]
        by_cases e4 : a = 12 ∧ d = 0 ∧ 1 ≤ b ∧ b < c.lay.many
        · rw [if_pos e4, if_pos e4]
        · rw [if_neg e4, if_neg e4, if_neg (by omega), if_neg (by omega)]
theorem classOf_in (h : c.CellsOk) {v : Int} (h1 : 1 ≤ v) (h2 : v ≤ c.nodes) : 0 ≤ c.classOf v ∧ c.classOf v < 5 := by
  obtain ⟨a, b, d, e, f⟩ := h
  unfold classOf
  repeat' split
  all_goals omega
/-- What free cells don't concern stays. -/
theorem frees_keep (hc : c.Ok) (t : Thing) (ht : t.1 ≠ 7 ∧ t.1 ≠ 17) : ∀ (v : Nat) (l : List Int), (v : Int) ≤ c.nodes → (l.length : Int) = c.lay.all → ld (c.frees v l) (c.place t) = ld l (c.place t)
  | 0, _, _, _ => rfl
  | v + 1, l, hv, hl => by
    have hk := classOf_in hc.cells (v := (v : Int) + 1) (by omega) (by omega)
    simp only [frees]
    rw [frees_keep hc t ht v _ (by omega) (by simpa using hl), ← place_head hc, ← place_next hc, ld_pp hc (by rw [pt_length]; exact hl) (mem_head hk), if_neg (by rintro rfl; exact ht.1 rfl), ld_pp hc hl (mem_node (by omega) (by omega) (by omega)), if_neg (by rintro rfl; exact ht.2 rfl)]
theorem ld_first (hc : c.Ok) (t : Thing) (ht : t.1 ≠ 7 ∧ t.1 ≠ 17) : ld c.first (c.place t) = c.fv t := by
  have hn := hc.some
  unfold first
  rw [frees_keep hc t ht _ _ (by omega) (first2_len hc), ld_first2 hc]

/-- The cells of a class, from one up to the common one. -/
def freeList (c : Cfg) (k : Int) (v n : Nat) : List Int := ((List.range' v (n - v)).map fun (i : Nat) => (i : Int)).filter fun i => decide (c.classOf i = k)
theorem freeList_nil (c : Cfg) (k : Int) (n : Nat) : c.freeList k n n = [] := by simp [freeList]
theorem freeList_cons (c : Cfg) (k : Int) {v n : Nat} (h : v < n) : c.freeList k v n = if c.classOf v = k then (v : Int) :: c.freeList k (v + 1) n else c.freeList k (v + 1) n := by
  unfold freeList
  have : n - v = (n - (v + 1)) + 1 := by omega
  rw [this, List.range'_succ, List.map_cons, List.filter_cons]
  by_cases e : c.classOf v = k <;> simp [e]
theorem mem_freeList (c : Cfg) (k : Int) (v n : Nat) (x : Int) : x ∈ c.freeList k v n ↔ (v : Int) ≤ x ∧ x < n ∧ c.classOf x = k := by
  simp only [freeList, List.mem_filter, List.mem_map, List.mem_range'_1, decide_eq_true_eq]
  constructor
  · rintro ⟨⟨i, hi, rfl⟩, h⟩; exact ⟨by omega, by omega, h⟩
  · rintro ⟨h1, h2, h3⟩; exact ⟨⟨x.toNat, by omega, by omega⟩, h3⟩
structure FreeInv (c : Cfg) (v n : Nat) (l : List Int) : Prop where
  len : (l.length : Int) = c.lay.all
  ch : ∀ k, 0 ≤ k → k < 5 → Chain c.nodes c.lay.next l (ld l (c.lay.headAt k)) (c.freeList k v n)
theorem u32_small {x : Int} (h : 0 ≤ x ∧ x ≤ 100) : wLo x = x := by unfold wLo; omega
theorem free_inv (hc : c.Ok) : ∀ (v : Nat) (n : Nat) (l : List Int), v < n → (n : Int) ≤ c.nodes → FreeInv c (v + 1) n l → FreeInv c 1 n (c.frees v l)
  | 0, _, _, _, _, h => h
  | v + 1, n, l, hv, hn, h => by
    have hk := classOf_in hc.cells (v := (v : Int) + 1) (by omega) (by omega)
    have hN := c.nodes_in hc.cells
    simp only [frees]
    refine free_inv hc v n _ (by omega) hn ⟨by simpa using h.len, fun k k0 k1 => ?_⟩
    rw [freeList_cons c k (by omega : v + 1 < n)]
    have e1 : ((v + 1 : Nat) : Int) = (v : Int) + 1 := by omega
    rw [e1]
    have hch := h.ch k k0 k1
    simp only [← place_head hc] at hch ⊢
    have hst : ∀ t : Thing, ld (pt (pt l (c.lay.next ((v : Int) + 1)) (ld l (c.place (7, c.classOf ((v : Int) + 1), 0)))) (c.place (7, c.classOf ((v : Int) + 1), 0)) ((v : Int) + 1)) (c.place t) =
        if (7, c.classOf ((v : Int) + 1), 0) = t then (v : Int) + 1 else if (17, (v : Int) + 1, 0) = t then ld l (c.place (7, c.classOf ((v : Int) + 1), 0)) else ld l (c.place t) := fun t => by
      rw [← place_next hc, ld_pp hc (by rw [pt_length]; exact h.len) (mem_head hk), ld_pp hc h.len (mem_node (by omega) (by omega) (by omega))]
    generalize pt (pt l (c.lay.next ((v : Int) + 1)) (ld l (c.place (7, c.classOf ((v : Int) + 1), 0)))) (c.place (7, c.classOf ((v : Int) + 1), 0)) ((v : Int) + 1) = M at hst ⊢
    have hnx : ∀ y ∈ c.freeList k (v + 1 + 1) n, ld M (c.lay.next y) = ld l (c.lay.next y) := fun y hy => by
      rw [← place_next hc, hst, if_neg (by simp), if_neg]
      intro e
      simp only [Prod.mk.injEq, true_and, and_true] at e
      have := (mem_freeList c k _ _ y).1 hy
      omega
    by_cases e : c.classOf ((v : Int) + 1) = k
    · rw [if_pos e, hst, if_pos (by rw [e])]
      refine ⟨rfl, by omega, by omega, ?_⟩
      have e17 : c.lay.next ((v : Int) + 1) = c.place (17, (v : Int) + 1, 0) := (place_next hc _).symm
      rw [e17, hst, if_neg (by simp), if_pos rfl, e]
      have h3 := hch.head_in hN.2 hN.1
      rw [u32_small (by omega)]
      exact hch.congr hnx
    · rw [if_neg e, hst, if_neg (by intro e'; simp only [Prod.mk.injEq, true_and, and_true] at e'; exact e e'), if_neg (by simp)]
      exact hch.congr hnx
theorem first_free (hc : c.Ok) (k : Int) (k0 : 0 ≤ k) (k1 : k < 5) : Chain c.nodes c.lay.next c.first (ld c.first (c.lay.headAt k)) (c.freeList k 1 c.nodes.toNat) := by
  have hn := hc.some
  refine (free_inv hc (c.nodes.toNat - 1) c.nodes.toNat c.first2 (by omega) (by omega) ⟨first2_len hc, fun k k0 k1 => ?_⟩).ch k k0 k1
  have : c.nodes.toNat - 1 + 1 = c.nodes.toNat := by omega
  rw [this, freeList_nil, ← place_head hc, ld_first2 hc]
  show c.fv (7, k, 0) = 0
  unfold fv
  simp only [Prod.mk.injEq]
  rw [if_neg (by omega), if_neg (by omega), if_neg (by omega), if_neg (by omega)]

theorem pt_wds_at {l : List Int} (h : Wds l) (a v : Int) (hv : U64 v) : Wds (pt l a v) := h.pt hv
theorem links_wds {l : List Int} (h : Wds l) (B : Int) (hB : B ≤ 10000) : ∀ k : Nat, (k : Int) ≤ B → Wds (c.links k l)
  | 0, _ => h
  | k + 1, hk => (links_wds h B hB k (by omega)).pt ⟨by omega, by omega⟩
theorem frees_wds (B : Int) (hB : B ≤ 10000) : ∀ (v : Nat) (l : List Int), (v : Int) ≤ B → Wds l → Wds (c.frees v l)
  | 0, _, _, h => h
  | v + 1, l, hv, h => frees_wds B hB v _ (by omega) ((h.pt (h.ld _)).pt ⟨by omega, by omega⟩)
theorem first_wds (hc : c.Ok) : Wds c.first := by
  have hn := c.nodes_in hc.cells
  have hm := (c.lay_ok hc).many
  have h0 : Wds c.first0 := Wds.pt (fun v hv => by rw [List.mem_replicate] at hv; obtain ⟨_, rfl⟩ := hv; exact ⟨by omega, by omega⟩) ⟨by omega, by omega⟩
  have hr : U64 (c.lay.roomOf c.nodes) := by
    have := roomOf_eq hc hc.some (Int.le_refl _)
    exact ⟨by omega, by omega⟩
  exact frees_wds 100 (by omega) _ _ (by omega) (((links_wds h0 10000 (by omega) _ (by omega)).pt ⟨by omega, by omega⟩).pt hr)

/-- At first all packets are spare. -/
def spares (c : Cfg) : List Int := (List.range c.lay.many.toNat).map fun (i : Nat) => (i : Int) + 1
theorem first_spare_chain (hc : c.Ok) : ∀ (d k : Nat), d + k = c.lay.many.toNat → Chain c.lay.many c.lay.link c.first (if k < c.lay.many.toNat then (k : Int) + 1 else 0) ((List.range' k d).map fun (i : Nat) => (i : Int) + 1)
  | 0, k, h => by
    rw [if_neg (by omega)]; exact rfl
  | d + 1, k, h => by
    rw [if_pos (by omega), List.range'_succ, List.map_cons]
    refine ⟨rfl, by omega, by omega, ?_⟩
    rw [← place_link hc, ld_first hc _ (by simp)]
    have ih := first_spare_chain hc d (k + 1) (by omega)
    have hm := (c.lay_ok hc).many
    have e : wLo (c.fv (12, (k : Int) + 1, 0)) = if k + 1 < c.lay.many.toNat then ((k + 1 : Nat) : Int) + 1 else 0 := by
      unfold fv
      simp only [Prod.mk.injEq]
      rw [if_neg (by omega)]
      by_cases e : k + 1 < c.lay.many.toNat
      · rw [if_pos ⟨trivial, trivial, by omega, by omega⟩, if_pos e]; unfold wLo; omega
      · rw [if_neg (by omega), if_neg (by omega), if_neg (by omega), if_neg e]; rfl
    rw [e]
    exact ih
theorem first_pk (hc : c.Ok) : PkInv c.lay c.first (fun _ => .spare) c.spares [] := by
  have hm := (c.lay_ok hc).many
  have hp := many_pos hc
  have hl := first_len hc
  have e5 : ld c.first 5 = 1 := by
    have h := ld_first hc (5, 0, 0) (by simp)
    rw [place_single 5 (by omega)] at h
    exact h
  have e4 : ld c.first 4 = 0 := by
    have h := ld_first hc (4, 0, 0) (by simp)
    rw [place_single 4 (by omega)] at h
    exact h
  have hch := first_spare_chain hc c.lay.many.toNat 0 (by omega)
  have hl' : c.first.length = c.lay.all.toNat := by have := all_pos hc; omega
  refine ⟨by rw [hl']; exact pgeo hc, first_wds hc, ?_, ?_, ?_, List.nodup_nil, fun x => ?_, fun x => ?_⟩
  · rw [e5]
    rw [if_pos (by omega)] at hch
    simpa [spares, List.range_eq_range', wLo] using hch
  · rw [e4]; exact rfl
  · unfold spares
    exact nodup_map _ (fun a b h => by omega) List.nodup_range
  · simp only [spares, List.mem_map, List.mem_range, and_true]
    constructor
    · rintro ⟨i, hi, rfl⟩; omega
    · intro h; exact ⟨(x - 1).toNat, by omega, by omega⟩
  · simp
end Cfg
end Go.Proofs.Ytcgnficlcgmffaa
