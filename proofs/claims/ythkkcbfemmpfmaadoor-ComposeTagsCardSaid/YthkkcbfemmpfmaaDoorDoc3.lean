import Derived.Test.YthkkcbfemmpfmaaDoorDoc2
set_option linter.unusedSimpArgs false
set_option linter.unusedVariables false
namespace Go.Proofs.YthkkcbfemmpfmaaDoor
open Go.RowKit Go.Lib

theorem ndCells_snoc : ∀ (g : List Nd) (kvs : List Value) (d : Nd) (kv : Value), kvs.length = g.length → ndCells (g ++ [d]) (kvs ++ [kv]) = ndCells g kvs ++ [.int .i64 d.kind, .string d.tag, .string d.text, kv]
  | [], [], _, _, _ => rfl
  | [], _ :: _, _, _, h => by simp at h
  | _ :: _, [], _, _, h => by simp at h
  | a :: g, v :: r, d, kv, h => by
    have := ndCells_snoc g r d kv (by simpa using h)
    simp only [List.cons_append, ndCells, this]
theorem setCell_heap (w : World) (a : Addr) (u : Value) : (w.setCell a u).heap.size = w.heap.size := by simp [World.setCell]

/-- the graph has a node more -/
theorem DocRep.graphPush {B : Nat} {w w1 : World} {p : Nat} {d : DocM} {gv ov : Value} {m : Nat} {kvs : List Value} (h : DocRep B w p d gv ov m kvs) (nd : Nd) (hks : nd.kids = []) (g cap : Nat)
    (ho : w1.ownsRow B 57 4 (.slice (some ⟨g, 0, none⟩) (d.g.length + 1) cap) (d.g.length + 1) (ndCells d.g kvs ++ [.int .i64 nd.kind, .string nd.tag, .string nd.text, .slice none 0 0])) (hg : w.grownBy w1 gv.ownBlock) :
    DocRep B (w1.setCell ⟨p, 0, none⟩ (.slice (some ⟨g, 0, none⟩) (d.g.length + 1) cap)) p { d with g := d.g ++ [nd] } (.slice (some ⟨g, 0, none⟩) (d.g.length + 1) cap) ov m (kvs ++ [.slice none 0 0]) ∧
    KeepP B p w (w1.setCell ⟨p, 0, none⟩ (.slice (some ⟨g, 0, none⟩) (d.g.length + 1) cap)) := by
  have b1 := h.blk.grown hg (own_block_ne h.graph h.blk (by decide))
  have keepRow : ∀ {x : Value} {n : Nat} {xs : List Value}, w.ownsRow B 3 1 x n xs → (w1.setCell ⟨p, 0, none⟩ (.slice (some ⟨g, 0, none⟩) (d.g.length + 1) cap)).ownsRow B 3 1 x n xs := by
    intro x n xs hx
    have h1 := hx.kept hg (own_type_ne hx h.graph (by decide))
    exact ownsRow_setCell_other h1 (own_block_ne h1 b1 (by decide)).symm _
  have hpm : m ≠ p := by have := h.pB; have := h.mB; omega
  refine ⟨⟨b1.set 0 _, h.pB, ?_, ?_, by simp [h.len], ?_, keepRow h.opn, ?_, h.mB, ?_, ?_, ?_⟩, ?_⟩
  · rw [setCell_heap]; exact Nat.le_trans h.wB hg.size
  · rw [ndCells_snoc _ _ _ _ h.len, List.length_append]
    exact ownsRow_setCell_other ho (own_block_ne ho b1 (by decide)).symm _
  · intro i hi x hx
    by_cases e : i < d.g.length
    · have hil : i < kvs.length := by rw [h.len]; exact e
      rw [List.getElem?_append_left hil] at hx
      simp only [List.getElem_append_left e]
      exact keepRow (h.kid i e x hx)
    · have hi' : i = d.g.length := by simp at hi; omega
      subst hi'
      rw [List.getElem?_append_right (by rw [h.len]; exact Nat.le_refl _)] at hx
      simp only [h.len, Nat.sub_self, List.getElem?_cons_zero, Option.some.injEq] at hx
      subst hx
      simp only [List.getElem_append_right (Nat.le_refl _), Nat.sub_self, List.getElem_cons_zero, hks]
      exact World.ownsRow_nil _ _ _ _
  · refine h.mp.kept ?_
    rw [Below.heap_setCell _ _ _ _ hpm, hg.block m h.mp.lt (map_ne_own h.graph h.mp)]
  · rw [← List.cons_append, List.pairwise_append]
    refine ⟨h.apart, by simp, ?_⟩
    intro x _ y hy
    obtain rfl : y = .slice none 0 0 := by simpa using hy
    exact apartV_symm (.inl rfl)
  · intro o ho'
    have := h.isOpen o ho'
    simp only [List.length_append, List.length_cons, List.length_nil]; omega
  · intro s n hs
    have := h.isName s n hs
    simp only [List.length_append, List.length_cons, List.length_nil]; omega
  · refine KeepP.set ⟨hg.os, hg.tape, hg.output, hg.size, fun i hi hp => hg.block i (by have := h.wB; omega) ?_⟩ _
    intro e
    have := own_base h.graph i e.symm
    omega

/-- a name stands for a node -/
theorem DocRep.name {B : Nat} {w w1 : World} {p : Nat} {d : DocM} {gv ov : Value} {m : Nat} {kvs : List Value} (h : DocRep B w p d gv ov m kvs) (s : ByteArray) (n : Nat) (hn : n < d.g.length)
    (hm : MapIs w1 m (fun s : ByteArray => Value.string s) (put d.names s n)) (ho : Only m w w1) :
    DocRep B w1 p { d with names := put d.names s n } gv ov m kvs ∧ KeepP B p w w1 := by
  have keepRow : ∀ {x : Value} {e : TypeId} {sz n : Nat} {xs : List Value}, w.ownsRow B e sz x n xs → w1.ownsRow B e sz x n xs := by
    intro x e sz n xs hx
    refine hx.kept ho.grown ?_
    cases hb : x.ownBlock with
    | none => exact .inl rfl
    | some g => exact .inr (fun e => map_ne_own hx h.mp (by rw [hb]; exact e.symm))
  have hpm : p ≠ m := by have := h.pB; have := h.mB; omega
  refine ⟨⟨(ho.block p hpm).trans h.blk, h.pB, by rw [ho.size]; exact h.wB, keepRow h.graph, h.len, fun i hi kv hk => keepRow (h.kid i hi kv hk), keepRow h.opn, hm, h.mB, h.apart, h.isOpen, ?_⟩, KeepP.of_below (ho.below h.mB)⟩
  intro s' n' hs
  simp only [put] at hs
  split at hs
  · cases hs; show 0 ≤ (n : Int) ∧ (n : Int) < (d.g.length : Int); omega
  · exact h.isName s' n' hs

/-- one more is open -/
theorem DocRep.openPush {B : Nat} {w w1 : World} {p : Nat} {d : DocM} {gv ov : Value} {m : Nat} {kvs : List Value} (h : DocRep B w p d gv ov m kvs) (o : Nat) (hol : o < d.g.length) (g cap : Nat)
    (ho : w1.ownsRow B 3 1 (.slice (some ⟨g, 0, none⟩) (d.op.length + 1) cap) (d.op.length + 1) (intCells d.op ++ [.int .i64 o])) (hg : w.grownBy w1 ov.ownBlock) (hat : some g = ov.ownBlock ∨ w.heap.size ≤ g) :
    DocRep B (w1.setCell ⟨p, 1, none⟩ (.slice (some ⟨g, 0, none⟩) (d.op.length + 1) cap)) p { d with op := d.op ++ [(o : Int)] } gv (.slice (some ⟨g, 0, none⟩) (d.op.length + 1) cap) m kvs ∧
    KeepP B p w (w1.setCell ⟨p, 1, none⟩ (.slice (some ⟨g, 0, none⟩) (d.op.length + 1) cap)) := by
  have b1 := h.blk.grown hg (own_block_ne h.opn h.blk (by decide))
  have hpm : m ≠ p := by have := h.pB; have := h.mB; omega
  have ap := List.pairwise_cons.1 h.apart
  refine ⟨⟨b1.set 1 _, h.pB, ?_, ?_, h.len, ?_, ?_, ?_, h.mB, ?_, ?_, h.isName⟩, ?_⟩
  · rw [setCell_heap]; exact Nat.le_trans h.wB hg.size
  · have h1 := h.graph.kept hg (own_type_ne h.graph h.opn (by decide))
    exact ownsRow_setCell_other h1 (own_block_ne h1 b1 (by decide)).symm _
  · intro i hi x hx
    have h1 := (h.kid i hi x hx).kept hg (apartV_symm (ap.1 x (List.mem_of_getElem? hx)))
    exact ownsRow_setCell_other h1 (own_block_ne h1 b1 (by decide)).symm _
  · have : intCells (d.op ++ [(o : Int)]) = intCells d.op ++ [.int .i64 o] := by simp [intCells]
    rw [this, List.length_append]
    exact ownsRow_setCell_other ho (own_block_ne ho b1 (by decide)).symm _
  · refine h.mp.kept ?_
    rw [Below.heap_setCell _ _ _ _ hpm, hg.block m h.mp.lt (map_ne_own h.opn h.mp)]
  · have hs := apart_set h.apart 0 (by simp) (.slice (some ⟨g, 0, none⟩) (d.op.length + 1) cap) (by
      rcases hat with hat | hat
      · left; exact hat
      · right; intro x hx he
        obtain ⟨n, xs, hx'⟩ := h.mem hx
        simp only [Value.ownBlock] at he
        have := own_lt hx' he
        omega)
    simpa using hs
  · intro x hx
    rcases List.mem_append.1 hx with hx | hx
    · exact h.isOpen x hx
    · obtain rfl : x = (o : Int) := by simpa using hx
      show 0 ≤ (o : Int) ∧ (o : Int) < (d.g.length : Int); omega
  · refine KeepP.set ⟨hg.os, hg.tape, hg.output, hg.size, fun i hi hp => hg.block i (by have := h.wB; omega) ?_⟩ _
    intro e
    have := own_base h.opn i e.symm
    omega
/-- the last one that is open is closed -/
theorem DocRep.openPop {B : Nat} {w : World} {p : Nat} {d : DocM} {gv : Value} {ob oc l m : Nat} {kvs : List Value} (h : DocRep B w p d gv (.slice (some ⟨ob, 0, none⟩) (l + 1) oc) m kvs) (hl : d.op.length = l + 1) :
    DocRep B (w.setCell ⟨p, 1, none⟩ (.slice (some ⟨ob, 0, none⟩) l oc)) p { d with op := d.op.take l } gv (.slice (some ⟨ob, 0, none⟩) l oc) m kvs ∧
    KeepP B p w (w.setCell ⟨p, 1, none⟩ (.slice (some ⟨ob, 0, none⟩) l oc)) := by
  have hpm : m ≠ p := by have := h.pB; have := h.mB; omega
  have ap := List.pairwise_cons.1 h.apart
  refine ⟨⟨h.blk.set 1 _, h.pB, by rw [setCell_heap]; exact h.wB, ownsRow_setCell_other h.graph (own_block_ne h.graph h.blk (by decide)).symm _, h.len, fun i hi x hx => ?_, ?_, ?_, h.mB, ?_, ?_, h.isName⟩, KeepP.set (KeepP.refl _ _ _) _⟩
  · have h1 := h.kid i hi x hx
    exact ownsRow_setCell_other h1 (own_block_ne h1 h.blk (by decide)).symm _
  · have h0 := h.opn
    rw [hl] at h0
    have h1 := own_take h0 (m := l) (by omega)
    have e1 : (intCells d.op).take (l * 1) = intCells (d.op.take l) := by simp [intCells, List.map_take]
    have e2 : (d.op.take l).length = l := by rw [List.length_take]; omega
    rw [e1] at h1
    show World.ownsRow _ _ _ _ _ (d.op.take l).length _
    rw [e2]
    exact ownsRow_setCell_other h1 (own_block_ne h1 h.blk (by decide)).symm _
  · exact h.mp.kept (Below.heap_setCell _ _ _ _ hpm)
  · rw [List.pairwise_cons]
    exact ⟨fun x hx => ap.1 x hx, ap.2⟩
  · intro x hx; exact h.isOpen x (List.mem_of_mem_take hx)
end Go.Proofs.YthkkcbfemmpfmaaDoor
