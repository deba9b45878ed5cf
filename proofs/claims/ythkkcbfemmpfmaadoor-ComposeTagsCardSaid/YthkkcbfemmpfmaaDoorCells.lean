import Derived.Test.YthkkcbfemmpfmaaDoorEvRight
import Derived.Deep.LoopGhost
set_option linter.unusedSimpArgs false
set_option linter.unusedVariables false
namespace Go.Proofs.YthkkcbfemmpfmaaDoor
open Go.RowKit Go.Lib

/-! ### a slice that is read: its cells -/
structure RRow (w : World) (sz : Nat) (A : Option Addr) (n : Nat) (cs : List Value) : Prop where
  len : cs.length = n * sz
  max : n ≤ 140737488351232
  cell : 0 < n → ∃ b off, A = some ⟨b, off, none⟩ ∧ ∀ j u, cs[j]? = some u → w.cell? ⟨b, off + j, none⟩ = some u
theorem RRow.below {w w' : World} {sz : Nat} {A : Option Addr} {n : Nat} {cs : List Value} (h : RRow w sz A n cs) (hb : Below w.heap.size w w') : RRow w' sz A n cs :=
  ⟨h.len, h.max, fun hn => by
    obtain ⟨b, off, rfl, hc⟩ := h.cell hn
    refine ⟨b, off, rfl, fun j u hu => ?_⟩
    have h1 := hc j u hu
    exact (hb.cell (p := ⟨b, off + j, none⟩) (World.block_lt_of_cell? w _ h1)).trans h1⟩

def evCells (es : List Ev) : List Value := es.flatMap Ev.cells
theorem evCells_cons (e : Ev) (r : List Ev) : evCells (e :: r) = e.cells ++ evCells r := rfl
theorem cells_len (e : Ev) : e.cells.length = 5 := rfl
theorem evCells_len (es : List Ev) : (evCells es).length = es.length * 5 := by
  induction es with
  | nil => rfl
  | cons e r ih => rw [evCells_cons, List.length_append, cells_len, ih, List.length_cons]; omega
theorem evCells_at (es : List Ev) (k j : Nat) (hk : k < es.length) (hj : j < 5) : (evCells es)[k * 5 + j]? = (es[k].cells)[j]? := by
  induction es generalizing k with
  | nil => simp at hk
  | cons e r ih =>
    cases k with
    | zero =>
      rw [evCells_cons, Nat.zero_mul, Nat.zero_add, List.getElem?_append_left (by rw [cells_len]; omega)]
      rfl
    | succ k =>
      rw [evCells_cons, List.getElem?_append_right (by rw [cells_len]; omega), cells_len, show (k + 1) * 5 + j - 5 = k * 5 + j from by omega]
      exact ih k (by simpa using hk)
structure REv (w : World) (A : Option Addr) (n : Nat) (es : List Ev) : Prop where
  row : RRow w 5 A n (evCells es)
  ok : ∀ e ∈ es, e.ok
  max : n ≤ 2199023255488
theorem REv.n {w : World} {A : Option Addr} {n : Nat} {es : List Ev} (h : REv w A n es) : es.length = n := by
  have := h.row.len; rw [evCells_len] at this; omega
theorem REv.below {w w' : World} {A : Option Addr} {n : Nat} {es : List Ev} (h : REv w A n es) (hb : Below w.heap.size w w') : REv w' A n es := ⟨h.row.below hb, h.ok, h.max⟩
theorem REv.at_ {w : World} {A : Option Addr} {n : Nat} {es : List Ev} (h : REv w A n es) (k : Nat) (hk : k < es.length) : ∃ b off, A = some ⟨b, off, none⟩ ∧
    w.cell? ⟨b, off + k * 5, none⟩ = some (.int .i64 es[k].kind) ∧ w.cell? ⟨b, off + k * 5 + 1, none⟩ = some (.string es[k].anchor) ∧ w.cell? ⟨b, off + k * 5 + 2, none⟩ = some (.string es[k].tag) ∧
    w.cell? ⟨b, off + k * 5 + 3, none⟩ = some (.string es[k].text) ∧ w.cell? ⟨b, off + k * 5 + 4, none⟩ = some (.bool es[k].plain) := by
  have hn := h.n
  obtain ⟨b, off, rfl, hc⟩ := h.row.cell (by omega)
  refine ⟨b, off, rfl, ?_, ?_, ?_, ?_, ?_⟩
  · exact hc (k * 5 + 0) _ (by rw [evCells_at es k 0 hk (by omega)]; rfl)
  · rw [Nat.add_assoc]; exact hc (k * 5 + 1) _ (by rw [evCells_at es k 1 hk (by omega)]; rfl)
  · rw [Nat.add_assoc]; exact hc (k * 5 + 2) _ (by rw [evCells_at es k 2 hk (by omega)]; rfl)
  · rw [Nat.add_assoc]; exact hc (k * 5 + 3) _ (by rw [evCells_at es k 3 hk (by omega)]; rfl)
  · rw [Nat.add_assoc]; exact hc (k * 5 + 4) _ (by rw [evCells_at es k 4 hk (by omega)]; rfl)

/-! ### event.Depth -/
def depthStep (x : Int × Int) (k : Int) : Int × Int :=
  let d := if k = 2 ∨ k = 4 then x.1 + 1 else if k = 3 ∨ k = 5 then x.1 - 1 else x.1
  (d, max x.2 d)
def depthOf (es : List Ev) : Int × Int := es.foldl (fun x e => depthStep x e.kind) (0, 0)
theorem take_snoc' {α : Type} (l : List α) (k : Nat) (h : k < l.length) : l.take (k + 1) = l.take k ++ [l[k]] := by
  rw [List.take_succ_eq_append_getElem h]
theorem depthOf_take (es : List Ev) (k : Nat) (h : k < es.length) : depthOf (es.take (k + 1)) = depthStep (depthOf (es.take k)) es[k].kind := by
  rw [take_snoc' es k h, depthOf, List.foldl_append]; rfl
theorem depthOf_le (es : List Ev) : ∀ k, k ≤ es.length → -(k : Int) ≤ (depthOf (es.take k)).1 ∧ (depthOf (es.take k)).1 ≤ k ∧ 0 ≤ (depthOf (es.take k)).2 ∧ (depthOf (es.take k)).2 ≤ k := by
  intro k
  induction k with
  | zero => intro _; simp [depthOf]
  | succ k ih =>
    intro hk
    have := ih (by omega)
    rw [depthOf_take es k (by omega)]
    simp only [depthStep]
    split <;> (try split) <;> omega
theorem depth_any (A : Option Addr) (n c : Nat) (es : List Ev) (w : World) (h : REv w A n es) :
    Calls Tryd.prog 37 #[.slice A n c] w fun e w' => e = .returned (.int .i64 (depthOf es).2) ∧ Below w.heap.size w w' := by
  have hn := h.n
  have hm := h.row.max
  have HN : Hid (es.length = n) := hn
  clear hn
  go_enter Tryd.func37, Tryd.ntmps37
  go_wp2_with fail
  go_loopw [2, 3, 8] (fun m d i wr => ∃ (k : Nat) (D M : Int), k ≤ n ∧ i = .int .i64 k ∧ d = .int .i64 D ∧ m = .int .i64 M ∧ Hid (depthOf (es.take k) = (D, M)) ∧ Below w.heap.size w wr) (fun _ _ i _ => n - (intOf i).toNat)
  case atStart => exact ⟨0, 0, 0, Nat.zero_le _, rfl, rfl, rfl, rfl, Below.refl _ _⟩
  case round =>
    obtain ⟨k, D, M, hk, rfl, rfl, rfl, hd, hB⟩ := hrel
    by_cases hlt : k < n
    · have hk' : k < es.length := by rw [HN.out]; exact hlt
      obtain ⟨b, off, rfl, h0, h1, h2, h3, h4⟩ := (h.below hB).at_ k hk'
      have hl := depthOf_le es k (by omega)
      have hs : Hid (depthOf (es.take (k + 1)) = depthStep (D, M) es[k].kind) := by rw [← hd.out]; exact depthOf_take es k hk'
      rw [hd.out] at hl
      obtain ⟨l1, l2, l3, l4⟩ := hl
      simp only at l1 l2 l3 l4
      clear h hd
      go_wp2_with fail
      all_goals
        go_roundw
        case rel => exact ⟨k + 1, _, _, by omega, by go_num, rfl, rfl, by show _ = _; rw [hs.out]; clear HN hs; simp_all [depthStep], hB.alloc hB.size _⟩
        case measure => simp [intOf]; omega
    · have hd' : Hid ((depthOf es).2 = M) := by
        have := hd.out; rw [List.take_of_length_le (by rw [HN.out]; omega)] at this; show _ = _; rw [this]
      clear hd
      go_wp2_with fail
      go_ret
      exact ⟨by rw [hd'.out]; rfl, hB⟩
end Go.Proofs.YthkkcbfemmpfmaaDoor
