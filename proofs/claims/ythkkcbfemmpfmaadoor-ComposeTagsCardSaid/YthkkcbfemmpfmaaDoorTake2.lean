import Derived.Test.YthkkcbfemmpfmaaDoorTake
set_option linter.unusedSimpArgs false
set_option linter.unusedVariables false
namespace Go.Proofs.YthkkcbfemmpfmaaDoor
open Go.RowKit Go.Lib

theorem nestCells_bump (y : Int × Int) (r : List (Int × Int)) (m : Int) : (nestCells (y :: r).reverse).set (r.length * 2 + 1) (.int .i64 m) = nestCells ((y.1, m) :: r).reverse := by
  have hl := nestCells_len r.reverse
  rw [List.length_reverse] at hl
  rw [List.reverse_cons, List.reverse_cons, nestCells_snoc, nestCells_snoc, List.set_append_right _ _ (by omega), hl, show r.length * 2 + 1 - r.length * 2 = 1 from by omega]
  rfl
def NestAt (base : Nat) (w : World) (P : Nat) (st : List (Int × Int)) (v : Value) : Prop := Blk w P [v] 77 ∧ base ≤ P ∧ w.ownsRow base 93 2 v st.length (nestCells st.reverse)
theorem NestAt.rep {base : Nat} {w : World} {P : Nat} {st : List (Int × Int)} {v : Value} (h : NestAt base w P st v) : NestRep base w P st := ⟨v, h⟩
theorem NestAt.below {base : Nat} {w w' : World} {P : Nat} {st : List (Int × Int)} {v : Value} (h : NestAt base w P st v) (hb : Below w.heap.size w w') : NestAt base w' P st v := ⟨h.1.below hb, h.2.1, own_below h.2.2 hb⟩
theorem NestAt.bump {base : Nat} {w : World} {P g cap : Nat} {y : Int × Int} {r : List (Int × Int)} (h : NestAt base w P (y :: r) (.slice (some ⟨g, 0, none⟩) (r.length + 1) cap)) (m : Int) :
    NestAt base (w.setCell ⟨g, r.length * 2 + 1, none⟩ (.int .i64 m)) P ((y.1, m) :: r) (.slice (some ⟨g, 0, none⟩) (r.length + 1) cap) := by
  obtain ⟨h1, h2, h3⟩ := h
  refine ⟨h1.other (fun e => own_ne_blk h3 h1 (by decide) e.symm) _, h2, ?_⟩
  rw [← nestCells_bump]
  exact own_set h3 _ _

set_option maxHeartbeats 2000000 in
set_option maxRecDepth 100000 in
theorem take_cons (base P : Nat) (y : Int × Int) (r : List (Int × Int)) (k : Int) (a t x : ByteArray) (p : Bool) (w : World) (hr : NestRep base w P (y :: r)) (hb : base ≤ w.heap.size)
    (hl : r.length + 2 ≤ 2199023255552) (hpos : ∀ x ∈ y :: r, 0 ≤ x.1 ∧ 0 ≤ x.2) (hm : y.2 ≤ 2199023255552) :
    Calls Tryd.prog 36 #[.pointer (some ⟨P, 0, none⟩), .agg #[.int .i64 k, .string a, .string t, .string x, .bool p]] w
      fun e w' => e = .returned (.bool (nestTake (y :: r) k).1) ∧ NestRep base w' P (nestTake (y :: r) k).2 ∧ Below base w w' := by
  have hB : Below w.heap.size w (w.alloc (.cells #[.int .i64 k, .string a, .string t, .string x, .bool p] 30)) := (Below.refl _ _).alloc (Nat.le_refl _) _
  have hK := Blk.new w [.int .i64 k, .string a, .string t, .string x, .bool p] 30
  obtain ⟨v, hv⟩ := hr
  obtain ⟨g, cap, rfl, hbg, hgl⟩ : ∃ g cap, v = .slice (some ⟨g, 0, none⟩) (r.length + 1) cap ∧ base ≤ g ∧ g < w.heap.size := by
    rcases own_forms hv.2.2 with ⟨_, h0, _⟩ | ⟨g, cap, rfl, hbg, hgl, hnc, hcm⟩
    · simp at h0
    · exact ⟨g, cap, rfl, hbg, hgl⟩
  have hv' : NestAt base w P (y :: r) (.slice (some ⟨g, 0, none⟩) (r.length + 1) cap) := hv
  have hx := nestCells_top y r
  have HC : Hid (∀ W, Below w.heap.size w W → W.cell? ⟨P, 0, none⟩ = some (.slice (some ⟨g, 0, none⟩) (r.length + 1) cap)) := fun W hW => (hv'.below hW).1.cell (j := 0) rfl
  have HC0 : Hid (∀ W, Below w.heap.size w W → W.cell? ⟨g, r.length * 2, none⟩ = some (.int .i64 y.1)) := fun W hW => by
    have := (hv'.below hW).2.2.cellAt (r.length * 2) (by omega); rwa [hx.1] at this
  have HC1 : Hid (∀ W, Below w.heap.size w W → W.cell? ⟨g, r.length * 2 + 1, none⟩ = some (.int .i64 y.2)) := fun W hW => by
    have := (hv'.below hW).2.2.cellAt (r.length * 2 + 1) (by omega); rwa [hx.2] at this
  have HF : Hid (∀ W, Below w.heap.size w W → W.frozen? ⟨g, r.length * 2 + 1, none⟩ = false) := fun W hW => (hv'.below hW).2.2.frozenAt _
  have hne1 : ¬ (w.heap.size = g) := by omega
  have hne2 : ¬ (g = w.heap.size) := by omega
  have hrl : r.length + 1 ≤ 140737488355328 := by omega
  obtain ⟨p1, p2⟩ := hpos y (by simp)
  have HP := hid' hpos
  have HV := hid' hv'
  have HR := hid' hv'.rep
  clear hx hv hv' hpos
  by_cases h0 : k = 0
  · subst h0
    go_enter Tryd.func36, Tryd.ntmps36
    go_wp2_with (first | (go_at_call 66; refine (last_some P g r.length cap _ (HC.out _ hB) hrl).mono ?_; rintro e w' ⟨rfl, hb1⟩; have hB := hB.trans (hb1.mono hB.size); have c0 := HC0.out _ hB; have c1 := HC1.out _ hB; have fg := HF.out _ hB; have hK := hK.below hb1; have kc := hK.cell (j := 0) rfl) | (go_at_call 67; refine (push_any base P (y :: r) 0 _ (HR.out.below hB) (by simp; omega) (Nat.le_trans hb hB.size)).mono ?_; rintro e w' ⟨rfl, hr1, hb1⟩; have hB' := (hB.mono hb).trans hb1))
    go_ret
    exact ⟨rfl, hr1, hB'⟩
  by_cases h1 : k = 1
  · subst h1
    go_enter Tryd.func36, Tryd.ntmps36
    go_wp2_with (first | (go_at_call 66; refine (last_some P g r.length cap _ (HC.out _ hB) hrl).mono ?_; rintro e w' ⟨rfl, hb1⟩; have hB := hB.trans (hb1.mono hB.size); have c0 := HC0.out _ hB; have c1 := HC1.out _ hB; have fg := HF.out _ hB; have hK := hK.below hb1; have kc := hK.cell (j := 0) rfl) | (go_at_call 68; refine (popEnd_any base P (y :: r) _ (HR.out.below hB) (by simp; omega) (Nat.le_trans hb hB.size) HP.out).mono ?_; rintro e w' ⟨rfl, hr1, hb1⟩; have hB' := (hB.mono hb).trans hb1))
    go_ret
    exact ⟨rfl, hr1, hB'⟩
  by_cases h3 : k = 3
  · subst h3
    go_enter Tryd.func36, Tryd.ntmps36
    go_wp2_with (first | (go_at_call 66; refine (last_some P g r.length cap _ (HC.out _ hB) hrl).mono ?_; rintro e w' ⟨rfl, hb1⟩; have hB := hB.trans (hb1.mono hB.size); have c0 := HC0.out _ hB; have c1 := HC1.out _ hB; have fg := HF.out _ hB; have hK := hK.below hb1; have kc := hK.cell (j := 0) rfl) | (go_at_call 68; refine (popSeq_any base P (y :: r) _ (HR.out.below hB) (by simp; omega) (Nat.le_trans hb hB.size) HP.out).mono ?_; rintro e w' ⟨rfl, hr1, hb1⟩; have hB' := (hB.mono hb).trans hb1))
    go_ret
    exact ⟨rfl, hr1, hB'⟩
  by_cases h5 : k = 5
  · subst h5
    go_enter Tryd.func36, Tryd.ntmps36
    go_wp2_with (first | (go_at_call 66; refine (last_some P g r.length cap _ (HC.out _ hB) hrl).mono ?_; rintro e w' ⟨rfl, hb1⟩; have hB := hB.trans (hb1.mono hB.size); have c0 := HC0.out _ hB; have c1 := HC1.out _ hB; have fg := HF.out _ hB; have hK := hK.below hb1; have kc := hK.cell (j := 0) rfl) | (go_at_call 68; refine (popMap_any base P (y :: r) _ (HR.out.below hB) (by simp; omega) (Nat.le_trans hb hB.size) HP.out).mono ?_; rintro e w' ⟨rfl, hr1, hb1⟩; have hB' := (hB.mono hb).trans hb1))
    go_ret
    exact ⟨rfl, hr1, hB'⟩
  have k0 : (k == 0) = false := by simp [h0]
  have k1 : (k == 1) = false := by simp [h1]
  have k3 : (k == 3) = false := by simp [h3]
  have k5 : (k == 5) = false := by simp [h5]
  have ht : ∀ b, isColl k = b → nestTake (y :: r) k = (true, if b then (k, 0) :: (y.1, y.2 + 1) :: r else (y.1, y.2 + 1) :: r) := by intro b hb; simp [nestTake, h0, h1, h3, h5, hb]
  cases h2 : (k == 2)
  · cases h4 : (k == 4)
    · rw [ht false (by simp [isColl, h2, h4])]
      clear ht
      simp only [Bool.false_eq_true, if_false]
      go_enter Tryd.func36, Tryd.ntmps36
      go_wp2_with (first | (go_at_call 66; refine (last_some P g r.length cap _ (HC.out _ hB) hrl).mono ?_; rintro e w' ⟨rfl, hb1⟩; have hB := hB.trans (hb1.mono hB.size); have c0 := HC0.out _ hB; have c1 := HC1.out _ hB; have fg := HF.out _ hB; have hK := hK.below hb1; have kc := hK.cell (j := 0) rfl))
      go_ret
      exact ⟨rfl, ((HV.out.below hB).bump _).rep, (hB.mono hb).setCell hbg _⟩
    · rw [ht true (by simp [isColl, h2, h4])]
      clear ht
      simp only [if_true]
      go_enter Tryd.func36, Tryd.ntmps36
      go_wp2_with (first | (go_at_call 66; refine (last_some P g r.length cap _ (HC.out _ hB) hrl).mono ?_; rintro e w' ⟨rfl, hb1⟩; have hB := hB.trans (hb1.mono hB.size); have c0 := HC0.out _ hB; have c1 := HC1.out _ hB; have fg := HF.out _ hB; have hK := hK.below hb1; have kc := hK.cell (j := 0) rfl) | (go_at_call 67; refine (push_any base P ((y.1, y.2 + 1) :: r) k _ ((HV.out.below hB).bump _).rep (by simp; omega) (by have h9 := hB.size; simp [World.setCell]; omega)).mono ?_; rintro e w' ⟨rfl, hr1, hb1⟩))
      go_ret
      exact ⟨rfl, hr1, ((hB.mono hb).setCell hbg _).trans hb1⟩
  · rw [ht true (by simp [isColl, h2])]
    clear ht
    simp only [if_true]
    go_enter Tryd.func36, Tryd.ntmps36
    go_wp2_with (first | (go_at_call 66; refine (last_some P g r.length cap _ (HC.out _ hB) hrl).mono ?_; rintro e w' ⟨rfl, hb1⟩; have hB := hB.trans (hb1.mono hB.size); have c0 := HC0.out _ hB; have c1 := HC1.out _ hB; have fg := HF.out _ hB; have hK := hK.below hb1; have kc := hK.cell (j := 0) rfl) | (go_at_call 67; refine (push_any base P ((y.1, y.2 + 1) :: r) k _ ((HV.out.below hB).bump _).rep (by simp; omega) (by have h9 := hB.size; simp [World.setCell]; omega)).mono ?_; rintro e w' ⟨rfl, hr1, hb1⟩))
    go_ret
    exact ⟨rfl, hr1, ((hB.mono hb).setCell hbg _).trans hb1⟩
end Go.Proofs.YthkkcbfemmpfmaaDoor
