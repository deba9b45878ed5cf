import Derived.Test.YthkkcbfemmpfmaaDoorCells
import Derived.OneCell
import Derived.OwnWalk
import Derived.Deep.QuietTactic
import Derived.BigQuiet
import Derived.Laws.OwnMore
import Derived.StillTailTactics
set_option linter.unusedSimpArgs false
set_option linter.unusedVariables false
namespace Go.Proofs.YthkkcbfemmpfmaaDoor
open Go.RowKit Go.Lib

/-- a region that draws its order: quiet operations, then a tail in one order -/
theorem still_tail {id : Nat} {Q : Exit → Act → World → Prop} {a : Act} {w : World} {l : List Oper} (n : Nat) (hB : Region.lexTailB .any l.toArray n = true)
    (h : wpStill Tryd.prog l.toArray w.drew (fun a' => wpList Tryd.prog l.toArray Q (l.drop n) a' w.drew) (l.take n) a) : (Code.region id l.toArray true).wp Tryd.prog Q a w :=
  wp_region_still_tail n (by kernel_rfl) hB h

/-! ### a block of cells, known whole -/
def Blk (w : World) (b : Nat) (cs : List Value) (t : TypeId) : Prop := w.heap[b]? = some (.cells cs.toArray t (0, 0))
theorem Blk.cell {w : World} {b : Nat} {cs : List Value} {t : TypeId} (h : Blk w b cs t) {j : Nat} {u : Value} (hu : cs[j]? = some u) : w.cell? ⟨b, j, none⟩ = some u := by
  rw [cell_of_row w b j cs.toArray t (0, 0) h]; simpa using hu
theorem Blk.free {w : World} {b : Nat} {cs : List Value} {t : TypeId} (h : Blk w b cs t) (j : Nat) : w.frozen? ⟨b, j, none⟩ = false := by
  have h' : w.heap[b]? = some (.cells cs.toArray t (0, 0)) := h
  simp [World.frozen?, h']
theorem Blk.lt {w : World} {b : Nat} {cs : List Value} {t : TypeId} (h : Blk w b cs t) : b < w.heap.size := (Array.getElem?_eq_some_iff.1 h).1
theorem Blk.set {w : World} {b : Nat} {cs : List Value} {t : TypeId} (h : Blk w b cs t) (j : Nat) (u : Value) : Blk (w.setCell ⟨b, j, none⟩ u) b (cs.set j u) t := by
  have h' : w.heap[b]? = some (.cells cs.toArray t (0, 0)) := h
  have := heap_setCell_same w b j cs.toArray t u h'
  show _ = _
  rw [this]; simp
theorem Blk.other {w : World} {b : Nat} {cs : List Value} {t : TypeId} (h : Blk w b cs t) {a : Addr} (hne : b ≠ a.block) (u : Value) : Blk (w.setCell a u) b cs t := by
  show _ = _
  rw [Below.heap_setCell _ _ _ _ hne]; exact h
theorem Blk.alloc {w : World} {b : Nat} {cs : List Value} {t : TypeId} (h : Blk w b cs t) (o : Obj) : Blk (w.alloc o) b cs t := by
  show _ = _
  rw [Below.heap_alloc _ _ _ h.lt]; exact h
theorem Blk.new (w : World) (cs : List Value) (t : TypeId) : Blk (w.alloc (.cells cs.toArray t)) w.heap.size cs t := heap_alloc_new w _
theorem Blk.below {w w' : World} {b : Nat} {cs : List Value} {t : TypeId} (h : Blk w b cs t) (hb : Below w.heap.size w w') : Blk w' b cs t := (hb.block b h.lt).trans h
theorem Blk.grown {w w' : World} {b : Nat} {cs : List Value} {t : TypeId} {row : Option Nat} (h : Blk w b cs t) (hg : w.grownBy w' row) (hne : some b ≠ row) : Blk w' b cs t := (hg.block b h.lt hne).trans h
theorem below_drewN' (w : World) (n : Nat) : Below w.heap.size w (w.drewN n) := ⟨rfl, rfl, rfl, Nat.le_refl _, fun _ _ => rfl⟩
theorem grown_of_below {w w1 : World} (h : Below w.heap.size w w1) (row : Option Nat) : w.grownBy w1 row := ⟨h.os, h.tape, h.output, h.size, fun i hi _ => h.block i hi⟩
theorem own_below {w w1 : World} {base : Nat} {e : TypeId} {size : Nat} {v : Value} {n : Nat} {xs : List Value} (h : w.ownsRow base e size v n xs) (hb : Below w.heap.size w w1) : w1.ownsRow base e size v n xs :=
  h.kept (grown_of_below hb none) (by cases v.ownBlock <;> simp)
/-- the shape of what is owned -/
theorem own_forms {w : World} {base : Nat} {e : TypeId} {size : Nat} {v : Value} {n : Nat} {xs : List Value} (h : w.ownsRow base e size v n xs) :
    (v = .slice none 0 0 ∧ n = 0 ∧ xs = []) ∨ ∃ g cap, v = .slice (some ⟨g, 0, none⟩) n cap ∧ base ≤ g ∧ g < w.heap.size ∧ n ≤ cap ∧ cap ≤ maxLen := by
  obtain ⟨hl, h⟩ := h
  rcases h with ⟨rfl, rfl⟩ | ⟨g, cap, cur, rfl, hb, hh, hn, hm, _⟩
  · exact .inl ⟨rfl, rfl, List.eq_nil_of_length_eq_zero (by simpa using hl)⟩
  · exact .inr ⟨g, cap, rfl, hb, (Array.getElem?_eq_some_iff.1 hh).1, hn, hm⟩
/-- an owned row and a block of another element type are apart -/
theorem own_ne_blk {w : World} {base : Nat} {e t : TypeId} {size : Nat} {g n cap b : Nat} {xs cs : List Value} (h : w.ownsRow base e size (.slice (some ⟨g, 0, none⟩) n cap) n xs) (hb : Blk w b cs t) (hne : e ≠ t) : g ≠ b := by
  rintro rfl
  rcases h.2 with ⟨hv, _⟩ | ⟨g', cap', cur, hv, _, hh, _⟩
  · cases hv
  · have hv' := hv
    simp only [Value.slice.injEq, Option.some.injEq, Addr.mk.injEq] at hv'
    obtain ⟨⟨rfl, _⟩, _⟩ := hv'
    have hb' : w.heap[g]? = some (.cells cs.toArray t (0, 0)) := hb
    rw [hh] at hb'
    simp only [Option.some.injEq, Obj.cells.injEq] at hb'
    exact hne hb'.2.1
theorem own_block_ne {w : World} {base : Nat} {e t : TypeId} {size n b : Nat} {v : Value} {xs cs : List Value} (h : w.ownsRow base e size v n xs) (hb : Blk w b cs t) (hne : e ≠ t) : some b ≠ v.ownBlock := by
  rcases own_forms h with ⟨rfl, _⟩ | ⟨g, cap, rfl, _⟩
  · simp [Value.ownBlock]
  · simp only [Value.ownBlock, ne_eq, Option.some.injEq]
    exact fun e' => own_ne_blk h hb hne e'.symm
theorem own_base {w : World} {base : Nat} {e : TypeId} {size n : Nat} {v : Value} {xs : List Value} (h : w.ownsRow base e size v n xs) (k : Nat) (hk : v.ownBlock = some k) : base ≤ k := (h.lt k hk).1
theorem own_take {w : World} {base : Nat} {e : TypeId} {size g cap n m : Nat} {xs : List Value} (h : w.ownsRow base e size (.slice (some ⟨g, 0, none⟩) n cap) n xs) (hm : m ≤ n) :
    w.ownsRow base e size (.slice (some ⟨g, 0, none⟩) m cap) m (xs.take (m * size)) := by
  obtain ⟨hl, h⟩ := h
  have hle : m * size ≤ n * size := Nat.mul_le_mul_right _ hm
  refine ⟨by rw [List.length_take, hl]; omega, ?_⟩
  rcases h with ⟨hv, _⟩ | ⟨g', cap', cur, hv, hb, hh, hn, hmx, hc, ht⟩
  · cases hv
  · simp only [Value.slice.injEq, Option.some.injEq, Addr.mk.injEq, true_and] at hv
    obtain ⟨⟨rfl, _⟩, rfl⟩ := hv
    exact .inr ⟨g, cap, cur, rfl, hb, hh, Nat.le_trans hm hn, hmx, hc, by rw [← ht, List.take_take, Nat.min_eq_left hle]⟩
theorem own_set {w : World} {base : Nat} {e : TypeId} {size g cap n : Nat} {xs : List Value} (h : w.ownsRow base e size (.slice (some ⟨g, 0, none⟩) n cap) n xs) (j : Nat) (u : Value) :
    (w.setCell ⟨g, j, none⟩ u).ownsRow base e size (.slice (some ⟨g, 0, none⟩) n cap) n (xs.set j u) := (h.stored j u).1

end Go.Proofs.YthkkcbfemmpfmaaDoor
