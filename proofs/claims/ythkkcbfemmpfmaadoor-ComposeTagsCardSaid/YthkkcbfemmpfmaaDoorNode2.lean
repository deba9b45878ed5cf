import Derived.Test.YthkkcbfemmpfmaaDoorNode
set_option linter.unusedSimpArgs false
set_option linter.unusedVariables false
namespace Go.Proofs.YthkkcbfemmpfmaaDoor
open Go.RowKit Go.Lib

/-- the bounds of a document after n events -/
structure DocOK (d : DocM) (n : Nat) : Prop where
  kids : ∀ i (hi : i < d.g.length), d.g[i].kids.length ≤ n
  op : d.op.length ≤ n
  g : d.g.length ≤ 2000
theorem kidM_forms (d : DocM) (a : Int) : (kidM d a).1.g = d.g ∨ ∃ o, (kidM d a).1.g = addKid d.g o a := by
  unfold kidM
  split
  · exact .inl rfl
  · rename_i o ho
    split
    · split
      · exact .inl rfl
      · exact .inr ⟨o.toNat, rfl⟩
    · exact .inl rfl
theorem kidM_ok {d : DocM} {n : Nat} (h : DocOK d n) (a : Int) : DocOK (kidM d a).1 (n + 1) := by
  refine ⟨fun i hi => ?_, by rw [kidM_op]; have := h.op; omega, by rw [kidM_g]; exact h.g⟩
  have hi' : i < d.g.length := by rw [kidM_g] at hi; exact hi
  have hk := h.kids i hi'
  rcases kidM_forms d a with e | ⟨o, e⟩
  · simp only [e]; omega
  · simp only [e, addKid_at _ _ _ i hi']
    split
    · simp only [List.length_append, List.length_cons, List.length_nil]; omega
    · omega
theorem newNode_ok {d : DocM} {n : Nat} (h : DocOK d n) (e : Ev) (hl : d.g.length < 2000) : DocOK (newNode d e) n := by
  refine ⟨fun i hi => ?_, h.op, by simp [newNode]; omega⟩
  have hl1 : (newNode d e).g.length = d.g.length + 1 := by simp [newNode]
  by_cases e1 : i < d.g.length
  · simp only [newNode, List.getElem_append_left e1]; exact h.kids i e1
  · have e2 : i = d.g.length := by omega
    subst e2
    simp [newNode]
theorem nodeM_ok {d : DocM} {n : Nat} (h : DocOK d n) (e : Ev) : DocOK (nodeM d e).1 (n + 1) := by
  have up : DocOK d (n + 1) := ⟨fun i hi => by have := h.kids i hi; omega, by have := h.op; omega, h.g⟩
  unfold nodeM
  split
  · exact up
  · split
    · exact up
    · have h2 := kidM_ok (newNode_ok h e (by omega)) d.g.length
      split
      · exact h2
      · exact ⟨h2.kids, by simp only [List.length_append, List.length_cons, List.length_nil, kidM_op, newNode]; have := h.op; omega, h2.g⟩

set_option maxRecDepth 100000 in
/-- (*doc).node -/
theorem docnode_any {B p : Nat} {w : World} {d : DocM} {gv ov : Value} {m : Nat} {kvs : List Value} (h : DocRep B w p d gv ov m kvs) (k : Int) (a t x : ByteArray) (pl : Bool) (hx : x.size ≤ 140737488351232) (n : Nat) (hok : DocOK d n) (hn : n ≤ 8796093022207) :
    Calls Tryd.prog 57 #[.pointer (some ⟨p, 0, none⟩), .agg #[.int .i64 k, .string a, .string t, .string x, .bool pl]] w
      fun e w' => e = .returned (.int .i64 (nodeM d ⟨k, a, t, x, pl⟩).2) ∧ (∃ gv' ov' kvs', DocRep B w' p (nodeM d ⟨k, a, t, x, pl⟩).1 gv' ov' m kvs') ∧ KeepP B p w w' := by
  by_cases hl : 2000 ≤ d.g.length
  · have hm : nodeM d ⟨k, a, t, x, pl⟩ = (d, 16) := by unfold nodeM; rw [if_pos hl]
    rw [hm]
    obtain ⟨GA, gc, rfl⟩ := doc_len h
    have hA0 := below1 w (.cells #[.int .i64 k, .string a, .string t, .string x, .bool pl] 30)
    have h1 := hid' (h.below hA0)
    have hplt := h.blk.lt
    have a0 := h1.out.blk.cell (j := 0) rfl
    have HW := hid' h.wB
    clear h hm
    go_enter Tryd.func57, Tryd.ntmps57
    go_wp2_with fail
    go_ret
    exact ⟨rfl, ⟨_, _, _, h1.out⟩, KeepP.of_below (hA0.mono HW.out)⟩
  · have hT := fun w => tag_any k a t x pl w hx
    by_cases hf : (tagE ⟨k, a, t, x, pl⟩).2 = 0
    · have hm : nodeM d ⟨k, a, t, x, pl⟩ = (if kindOf k = 0 then (kidM (newNode d ⟨k, a, t, x, pl⟩) d.g.length).1 else { (kidM (newNode d ⟨k, a, t, x, pl⟩) d.g.length).1 with op := (kidM (newNode d ⟨k, a, t, x, pl⟩) d.g.length).1.op ++ [(d.g.length : Int)] }, (kidM (newNode d ⟨k, a, t, x, pl⟩) d.g.length).2) := by
        unfold nodeM; rw [if_neg hl, if_neg (by simp [hf])]
      rw [hm]
      rw [hf] at hT
      exact node_ok h k a t x pl _ hT (by omega) (fun i hi => by have := hok.kids i hi; omega) (by have := hok.op; omega) _ rfl
    · have hm : nodeM d ⟨k, a, t, x, pl⟩ = (d, (tagE ⟨k, a, t, x, pl⟩).2) := by unfold nodeM; rw [if_neg hl, if_pos hf]
      rw [hm]
      obtain ⟨GA, gc, rfl⟩ := doc_len h
      have hA0 := below1 w (.cells #[.int .i64 k, .string a, .string t, .string x, .bool pl] 30)
      have h1 := hid' (h.below hA0)
      have hplt := h.blk.lt
      have a0 := h1.out.blk.cell (j := 0) rfl
      have HW := hid' h.wB
      clear h hm
      generalize tagE ⟨k, a, t, x, pl⟩ = r at hT hf ⊢
      obtain ⟨T, f⟩ := r
      simp only at hT hf ⊢
      have hf' : (f != 0) = true := by simp [hf]
      have HT := hid' hT
      clear hT hf
      go_enter Tryd.func57, Tryd.ntmps57
      go_wp2_with (go_at_call 10; refine (HT.out _).mono ?_; rintro e w1 ⟨rfl, hb⟩)
      go_ret
      exact ⟨rfl, ⟨_, _, _, h1.out.below (by assumption)⟩, (KeepP.of_below (hA0.mono HW.out)).trans (KeepP.of_below (Below.mono (by assumption) (Nat.le_trans HW.out hA0.size)))⟩
end Go.Proofs.YthkkcbfemmpfmaaDoor
