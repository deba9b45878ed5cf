import Derived.Test.YthkkcbfemmpfmaaDoorHeap
import Derived.IntWalk
set_option linter.unusedSimpArgs false
set_option linter.unusedVariables false
namespace Go.Proofs.YthkkcbfemmpfmaaDoor
open Go.RowKit Go.Lib

/-! ### event.nest: what is open, the innermost first -/
def nestCells (st : List (Int × Int)) : List Value := st.flatMap fun x => [.int .i64 x.1, .int .i64 x.2]
def NestRep (base : Nat) (w : World) (P : Nat) (st : List (Int × Int)) : Prop :=
  ∃ v, Blk w P [v] 77 ∧ base ≤ P ∧ w.ownsRow base 93 2 v st.length (nestCells st.reverse)
theorem NestRep.below {base : Nat} {w w' : World} {P : Nat} {st : List (Int × Int)} (h : NestRep base w P st) (hb : Below w.heap.size w w') : NestRep base w' P st := by
  obtain ⟨v, h1, h2, h3⟩ := h
  exact ⟨v, h1.below hb, h2, own_below h3 hb⟩
theorem nestCells_snoc (st : List (Int × Int)) (x : Int × Int) : nestCells (st ++ [x]) = nestCells st ++ [.int .i64 x.1, .int .i64 x.2] := by simp [nestCells]
theorem nestCells_len (st : List (Int × Int)) : (nestCells st).length = st.length * 2 := by
  induction st with
  | nil => rfl
  | cons x r ih => show ([_, _] ++ nestCells r).length = _; rw [List.length_append, ih]; simp; omega

theorem hid' {p : Prop} (h : p) : Hid p := h

theorem last_nil (P c : Nat) (A : Option Addr) (w : World) (hc : w.cell? ⟨P, 0, none⟩ = some (.slice A 0 c)) :
    Calls Tryd.prog 66 #[.pointer (some ⟨P, 0, none⟩)] w fun e w' => e = .returned (.pointer (some ⟨w.heap.size, 0, none⟩)) ∧ w.alloc (.cells #[.int .i64 (-1), .int .i64 0] 93) = w' := by
  go_enter Tryd.func66, Tryd.ntmps66
  go_wp2_with fail
  go_ret
  exact ⟨rfl, rfl⟩
theorem last_some (P g n cap : Nat) (w : World) (hc : w.cell? ⟨P, 0, none⟩ = some (.slice (some ⟨g, 0, none⟩) (n + 1) cap)) (hn : n + 1 ≤ 140737488355328) :
    Calls Tryd.prog 66 #[.pointer (some ⟨P, 0, none⟩)] w fun e w' => e = .returned (.pointer (some ⟨g, n * 2, none⟩)) ∧ Below w.heap.size w w' := by
  have h0 : ((n : Int) + 1 == 0) = false := by simp; omega
  go_enter Tryd.func66, Tryd.ntmps66
  go_wp2_with fail
  go_quiet (fail)
  go_wp2_with fail
  go_ret
  exact ⟨rfl, by first | exact below_drewN' _ _ | exact Below.drew (Below.refl _ _)⟩

theorem info_open : (Tryd.prog.info? 93).map (fun i => (i.zero, i.size, i.bytes)) = some (some (.agg #[.int .i64 0, .int .i64 0]), 2, 16) := by kernel_rfl
theorem append_open {ops : Array Oper} {rest : List Oper} {o : Oper} {a : Act} {Q : Exit → Act → World → Prop} (w : World) (hgd : o.guard = none) (s x : Operand)
    (ho : o.op = .call { callee := .builtin .append, args := #[s, x], argTypes := #[75, 75] }) {base n : Nat} (v : Value) (xs : List Value) (hs : a.eval s = v) (hown : w.ownsRow base 93 2 v n xs)
    (k m : Value) (hx : a.eval x = .slice (some ⟨w.heap.size, 0, none⟩) 1 1) (h1 : k.oneCell' = true) (h2 : m.oneCell' = true) (h63 : n + 1 ≤ maxLen) (hbytes : (n + 1) * 16 ≤ 140737488355328) (hbase : base ≤ w.heap.size)
    (h : ∀ g cap w', w'.ownsRow base 93 2 (.slice (some ⟨g, 0, none⟩) (n + 1) cap) (n + 1) (xs ++ [k, m]) → w.grownBy w' v.ownBlock → wpList Tryd.prog ops Q rest (a.put o.dst (.slice (some ⟨g, 0, none⟩) (n + 1) cap)) w') :
    wpList Tryd.prog ops Q (o :: rest) a (w.alloc (.cells #[k, m] 93)) := by
  obtain ⟨i0, hi, hz0, hz1, hz2⟩ := info_parts info_open
  refine wpList_append_own _ hgd s x 75 ho base 93 i0 (.agg #[.int .i64 0, .int .i64 0]) 2 16 Tryd.underlying75 hi hz0 hz1 hz2 rfl (by decide) v n xs hs (hown.alloc _) ⟨w.heap.size, 0, none⟩ 1 1 [k, m] hx rfl
    (cell_two_new _ _ _ _) (by simp [h1, h2]) h63 hbytes (by simp; omega) ?_
  intro v' w' h3 h4 _
  rcases own_forms h3 with ⟨_, h0, _⟩ | ⟨g, cap, rfl, _⟩
  · omega
  exact h g cap w' h3 (World.grownBy.trans (World.grownBy_alloc w _ _) h4)
theorem push_any (base P : Nat) (st : List (Int × Int)) (k : Int) (w : World) (hr : NestRep base w P st) (hl : st.length ≤ 2199023255552) (hb : base ≤ w.heap.size) :
    Calls Tryd.prog 67 #[.pointer (some ⟨P, 0, none⟩), .int .i64 k] w fun e w' => e = .returned (.tuple #[]) ∧ NestRep base w' P ((k, 0) :: st) ∧ Below base w w' := by
  obtain ⟨v, h1, h2, h3⟩ := hr
  have hc := h1.cell (j := 0) rfl
  have hf := h1.free 0
  have hlt := h1.lt
  have HA : Hid (st.length + 1 ≤ maxLen) := by show _ ≤ _; unfold maxLen; omega
  have HB : Hid ((st.length + 1) * 16 ≤ 140737488355328) := by show _ ≤ _; omega
  have H3 : Hid (w.ownsRow base 93 2 v st.length (nestCells st.reverse)) := h3
  have hne := own_block_ne h3 h1 (by decide)
  clear hl h3
  go_enter Tryd.func67, Tryd.ntmps67
  go_wp2_with (at_builtin; refine append_open _ rfl _ _ rfl v _ rfl H3.out _ _ rfl rfl rfl HA.out HB.out hb ?_; intro g' cap' w1 hown hg; have h1 := h1.grown hg hne; have hc := h1.cell (j := 0) rfl; have hf := h1.free 0; have HO := hid' hown; clear hown)
  go_end0
  refine ⟨rfl, ⟨_, h1.set 0 _, h2, ?_⟩, ?_⟩
  · have ho := ownsRow_setCell_other HO.out (a := ⟨P, 0, none⟩) (own_block_ne HO.out h1 (by decide)).symm (.slice (some ⟨g', 0, none⟩) (st.length + 1) cap')
    rw [List.reverse_cons, nestCells_snoc, List.length_cons]
    exact ho
  · exact ((Below.refl _ _).grown hg hb (own_base H3.out)).setCell h2 _

def popM (st : List (Int × Int)) (kd : Int) (may : Int → Bool) : Bool × List (Int × Int) :=
  match st with
  | [] => (false, [])
  | x :: r => if x.1 = kd ∧ may x.2 = true then (true, r) else (false, x :: r)
theorem end_any (m : Int) (w : World) : Calls Tryd.prog 69 #[.int .i64 m] w fun e w' => e = .returned (.bool (m == 1)) ∧ w = w' := by
  go_enter Tryd.func69, Tryd.ntmps69
  go_wp2
  go_ret
  exact ⟨rfl, rfl⟩
theorem seqEnd_any (m : Int) (w : World) : Calls Tryd.prog 70 #[.int .i64 m] w fun e w' => e = .returned (.bool true) ∧ w = w' := by
  go_enter Tryd.func70, Tryd.ntmps70
  go_wp2
  go_ret
  exact ⟨rfl, rfl⟩
theorem mapEnd_any (m : Int) (w : World) (h0 : 0 ≤ m) : Calls Tryd.prog 71 #[.int .i64 m] w fun e w' => e = .returned (.bool (m % 2 == 0)) ∧ w = w' := by
  go_enter Tryd.func71, Tryd.ntmps71
  go_wp2
  go_ret
  exact ⟨rfl, rfl⟩
theorem nestCells_top (x : Int × Int) (r : List (Int × Int)) : (nestCells (x :: r).reverse)[r.length * 2]? = some (.int .i64 x.1) ∧ (nestCells (x :: r).reverse)[r.length * 2 + 1]? = some (.int .i64 x.2) := by
  have hl := nestCells_len r.reverse
  rw [List.length_reverse] at hl
  rw [List.reverse_cons, nestCells_snoc]
  constructor
  · rw [List.getElem?_append_right (by omega), hl]; simp
  · rw [List.getElem?_append_right (by omega), hl]; simp

set_option maxHeartbeats 1000000 in

set_option maxRecDepth 100000 in
theorem popEnd_any (base P : Nat) (st : List (Int × Int)) (w : World) (hr : NestRep base w P st) (hl : st.length ≤ 2199023255552) (hb : base ≤ w.heap.size) (hpos : ∀ x ∈ st, 0 ≤ x.1 ∧ 0 ≤ x.2) :
    Calls Tryd.prog 68 #[.pointer (some ⟨P, 0, none⟩), .int .i64 0, .func (.func 69) #[] #[]] w fun e w' => e = .returned (.bool (popM st 0 (fun m => m == 1)).1) ∧ NestRep base w' P (popM st 0 (fun m => m == 1)).2 ∧ Below base w w' := by
  obtain ⟨v, h1, h2, h3⟩ := hr
  have hc := h1.cell (j := 0) rfl
  have hf := h1.free 0
  have hlt := h1.lt
  cases st with
  | nil =>
    rcases own_forms h3 with ⟨rfl, _⟩ | ⟨g, cap, rfl, _⟩
    · go_enter Tryd.func68, Tryd.ntmps68
      go_wp2_with (go_at_call 66; refine (last_nil _ _ _ _ hc).mono ?_; rintro e w' ⟨rfl, rfl⟩)
      go_ret
      exact ⟨rfl, NestRep.below ⟨_, h1, h2, h3⟩ ((Below.refl _ _).alloc (Nat.le_refl _) _), (Below.refl _ _).alloc hb _⟩
    · go_enter Tryd.func68, Tryd.ntmps68
      go_wp2_with (go_at_call 66; refine (last_nil _ _ _ _ hc).mono ?_; rintro e w' ⟨rfl, rfl⟩)
      go_ret
      exact ⟨rfl, NestRep.below ⟨_, h1, h2, h3⟩ ((Below.refl _ _).alloc (Nat.le_refl _) _), (Below.refl _ _).alloc hb _⟩
  | cons x r =>
    rcases own_forms h3 with ⟨_, h0, _⟩ | ⟨g, cap, rfl, hbg, hgl, hnc, hcm⟩
    · simp at h0
    rw [List.length_cons] at hnc
    unfold maxLen at hcm
    have hx := nestCells_top x r
    have c0 := h3.cellAt (r.length * 2) (by simp)
    have c1 := h3.cellAt (r.length * 2 + 1) (by simp; omega)
    rw [hx.1] at c0
    rw [hx.2] at c1
    obtain ⟨p1, p2⟩ := hpos x (by simp)
    have hrl : r.length + 1 ≤ 140737488355328 := by simp at hl; omega
    rw [List.length_cons] at hc
    have H3 := hid' h3
    clear h3 hl hpos hx
    by_cases hk : x.1 = 0
    · have hk' : (x.1 != 0) = false := by simp [hk]
      cases hm : (x.2 == 1)
      · go_enter Tryd.func68, Tryd.ntmps68
        go_wp2_with (first | (go_at_call 66; refine (last_some _ _ _ _ _ hc hrl).mono ?_; rintro e w' ⟨rfl, hb1⟩; have hc1 := bcell hb1) | (go_at_call 69; refine (end_any _ _).mono ?_; rintro e w' ⟨rfl, rfl⟩))
        go_ret
        exact ⟨by simp [popM, hk, hm], by simp only [popM, hk, hm]; exact NestRep.below ⟨_, h1, h2, H3.out⟩ (by assumption), Below.mono (by assumption) hb⟩
      · have hw := IntWalk.i64_in (r.length : Int) (by omega)
        have hle : r.length ≤ cap := by omega
        go_enter Tryd.func68, Tryd.ntmps68
        go_wp2_with (first | (go_at_call 66; refine (last_some _ _ _ _ _ hc hrl).mono ?_; rintro e w' ⟨rfl, hb1⟩; have hc1 := bcell hb1; have hf1 := bfroz hb1) | (go_at_call 69; refine (end_any _ _).mono ?_; rintro e w' ⟨rfl, rfl⟩))
        refine still_tail 14 (by kernel_rfl) ?_
        simp only [List.take_succ_cons, List.take_zero, List.drop_succ_cons, List.drop_zero]
        repeat still_step
        refine wpStill_nil ?_
        go_wp2_with fail
        go_ret
        have g1 := h1.below (by assumption)
        have g3 := own_below H3.out (by assumption)
        have g4 := own_take g3 (m := r.length) (by simp)
        have g5 := ownsRow_setCell_other g4 (a := ⟨P, 0, none⟩) (own_block_ne g4 g1 (by decide)).symm (.slice (some ⟨g, 0, none⟩) r.length cap)
        have e1 : (nestCells (x :: r).reverse).take (r.length * 2) = nestCells r.reverse := by
          rw [List.reverse_cons, nestCells_snoc, List.take_append_of_le_length (by rw [nestCells_len, List.length_reverse]; exact Nat.le_refl _), List.take_of_length_le (by rw [nestCells_len, List.length_reverse]; exact Nat.le_refl _)]
        rw [e1] at g5
        exact ⟨by simp [popM, hk, hm], by simp only [popM, hk, hm]; exact ⟨_, g1.set 0 _, h2, g5⟩, ((Below.mono (by assumption) hb).setCell h2 _).drew⟩
    · have hk' : (x.1 != 0) = true := by simp [hk]
      go_enter Tryd.func68, Tryd.ntmps68
      go_wp2_with (go_at_call 66; refine (last_some _ _ _ _ _ hc hrl).mono ?_; rintro e w' ⟨rfl, hb1⟩; have hc1 := bcell hb1)
      go_ret
      exact ⟨by simp [popM, hk], by simp only [popM, hk]; exact NestRep.below ⟨_, h1, h2, H3.out⟩ (by assumption), Below.mono (by assumption) hb⟩

set_option maxRecDepth 100000 in
theorem popSeq_any (base P : Nat) (st : List (Int × Int)) (w : World) (hr : NestRep base w P st) (hl : st.length ≤ 2199023255552) (hb : base ≤ w.heap.size) (hpos : ∀ x ∈ st, 0 ≤ x.1 ∧ 0 ≤ x.2) :
    Calls Tryd.prog 68 #[.pointer (some ⟨P, 0, none⟩), .int .i64 2, .func (.func 70) #[] #[]] w fun e w' => e = .returned (.bool (popM st 2 (fun _ => true)).1) ∧ NestRep base w' P (popM st 2 (fun _ => true)).2 ∧ Below base w w' := by
  obtain ⟨v, h1, h2, h3⟩ := hr
  have hc := h1.cell (j := 0) rfl
  have hf := h1.free 0
  have hlt := h1.lt
  cases st with
  | nil =>
    rcases own_forms h3 with ⟨rfl, _⟩ | ⟨g, cap, rfl, _⟩
    · go_enter Tryd.func68, Tryd.ntmps68
      go_wp2_with (go_at_call 66; refine (last_nil _ _ _ _ hc).mono ?_; rintro e w' ⟨rfl, rfl⟩)
      go_ret
      exact ⟨rfl, NestRep.below ⟨_, h1, h2, h3⟩ ((Below.refl _ _).alloc (Nat.le_refl _) _), (Below.refl _ _).alloc hb _⟩
    · go_enter Tryd.func68, Tryd.ntmps68
      go_wp2_with (go_at_call 66; refine (last_nil _ _ _ _ hc).mono ?_; rintro e w' ⟨rfl, rfl⟩)
      go_ret
      exact ⟨rfl, NestRep.below ⟨_, h1, h2, h3⟩ ((Below.refl _ _).alloc (Nat.le_refl _) _), (Below.refl _ _).alloc hb _⟩
  | cons x r =>
    rcases own_forms h3 with ⟨_, h0, _⟩ | ⟨g, cap, rfl, hbg, hgl, hnc, hcm⟩
    · simp at h0
    rw [List.length_cons] at hnc
    unfold maxLen at hcm
    have hx := nestCells_top x r
    have c0 := h3.cellAt (r.length * 2) (by simp)
    have c1 := h3.cellAt (r.length * 2 + 1) (by simp; omega)
    rw [hx.1] at c0
    rw [hx.2] at c1
    obtain ⟨p1, p2⟩ := hpos x (by simp)
    have hrl : r.length + 1 ≤ 140737488355328 := by simp at hl; omega
    rw [List.length_cons] at hc
    have H3 := hid' h3
    clear h3 hl hpos hx
    by_cases hk : x.1 = 2
    · have hk' : (x.1 != 2) = false := by simp [hk]
      have hm : (true : Bool) = true := rfl
      have hw := IntWalk.i64_in (r.length : Int) (by omega)
      have hle : r.length ≤ cap := by omega
      go_enter Tryd.func68, Tryd.ntmps68
      go_wp2_with (first | (go_at_call 66; refine (last_some _ _ _ _ _ hc hrl).mono ?_; rintro e w' ⟨rfl, hb1⟩; have hc1 := bcell hb1; have hf1 := bfroz hb1) | (go_at_call 70; refine (seqEnd_any _ _).mono ?_; rintro e w' ⟨rfl, rfl⟩))
      refine still_tail 14 (by kernel_rfl) ?_
      simp only [List.take_succ_cons, List.take_zero, List.drop_succ_cons, List.drop_zero]
      repeat still_step
      refine wpStill_nil ?_
      go_wp2_with fail
      go_ret
      have g1 := h1.below (by assumption)
      have g3 := own_below H3.out (by assumption)
      have g4 := own_take g3 (m := r.length) (by simp)
      have g5 := ownsRow_setCell_other g4 (a := ⟨P, 0, none⟩) (own_block_ne g4 g1 (by decide)).symm (.slice (some ⟨g, 0, none⟩) r.length cap)
      have e1 : (nestCells (x :: r).reverse).take (r.length * 2) = nestCells r.reverse := by
        rw [List.reverse_cons, nestCells_snoc, List.take_append_of_le_length (by rw [nestCells_len, List.length_reverse]; exact Nat.le_refl _), List.take_of_length_le (by rw [nestCells_len, List.length_reverse]; exact Nat.le_refl _)]
      rw [e1] at g5
      exact ⟨by simp [popM, hk, hm], by simp only [popM, hk, hm]; exact ⟨_, g1.set 0 _, h2, g5⟩, ((Below.mono (by assumption) hb).setCell h2 _).drew⟩
    · have hk' : (x.1 != 2) = true := by simp [hk]
      go_enter Tryd.func68, Tryd.ntmps68
      go_wp2_with (go_at_call 66; refine (last_some _ _ _ _ _ hc hrl).mono ?_; rintro e w' ⟨rfl, hb1⟩; have hc1 := bcell hb1)
      go_ret
      exact ⟨by simp [popM, hk], by simp only [popM, hk]; exact NestRep.below ⟨_, h1, h2, H3.out⟩ (by assumption), Below.mono (by assumption) hb⟩

set_option maxRecDepth 100000 in
theorem popMap_any (base P : Nat) (st : List (Int × Int)) (w : World) (hr : NestRep base w P st) (hl : st.length ≤ 2199023255552) (hb : base ≤ w.heap.size) (hpos : ∀ x ∈ st, 0 ≤ x.1 ∧ 0 ≤ x.2) :
    Calls Tryd.prog 68 #[.pointer (some ⟨P, 0, none⟩), .int .i64 4, .func (.func 71) #[] #[]] w fun e w' => e = .returned (.bool (popM st 4 (fun m => m % 2 == 0)).1) ∧ NestRep base w' P (popM st 4 (fun m => m % 2 == 0)).2 ∧ Below base w w' := by
  obtain ⟨v, h1, h2, h3⟩ := hr
  have hc := h1.cell (j := 0) rfl
  have hf := h1.free 0
  have hlt := h1.lt
  cases st with
  | nil =>
    rcases own_forms h3 with ⟨rfl, _⟩ | ⟨g, cap, rfl, _⟩
    · go_enter Tryd.func68, Tryd.ntmps68
      go_wp2_with (go_at_call 66; refine (last_nil _ _ _ _ hc).mono ?_; rintro e w' ⟨rfl, rfl⟩)
      go_ret
      exact ⟨rfl, NestRep.below ⟨_, h1, h2, h3⟩ ((Below.refl _ _).alloc (Nat.le_refl _) _), (Below.refl _ _).alloc hb _⟩
    · go_enter Tryd.func68, Tryd.ntmps68
      go_wp2_with (go_at_call 66; refine (last_nil _ _ _ _ hc).mono ?_; rintro e w' ⟨rfl, rfl⟩)
      go_ret
      exact ⟨rfl, NestRep.below ⟨_, h1, h2, h3⟩ ((Below.refl _ _).alloc (Nat.le_refl _) _), (Below.refl _ _).alloc hb _⟩
  | cons x r =>
    rcases own_forms h3 with ⟨_, h0, _⟩ | ⟨g, cap, rfl, hbg, hgl, hnc, hcm⟩
    · simp at h0
    rw [List.length_cons] at hnc
    unfold maxLen at hcm
    have hx := nestCells_top x r
    have c0 := h3.cellAt (r.length * 2) (by simp)
    have c1 := h3.cellAt (r.length * 2 + 1) (by simp; omega)
    rw [hx.1] at c0
    rw [hx.2] at c1
    obtain ⟨p1, p2⟩ := hpos x (by simp)
    have hrl : r.length + 1 ≤ 140737488355328 := by simp at hl; omega
    rw [List.length_cons] at hc
    have H3 := hid' h3
    clear h3 hl hpos hx
    by_cases hk : x.1 = 4
    · have hk' : (x.1 != 4) = false := by simp [hk]
      cases hm : (x.2 % 2 == 0)
      · go_enter Tryd.func68, Tryd.ntmps68
        go_wp2_with (first | (go_at_call 66; refine (last_some _ _ _ _ _ hc hrl).mono ?_; rintro e w' ⟨rfl, hb1⟩; have hc1 := bcell hb1) | (go_at_call 71; refine (mapEnd_any _ _ p2).mono ?_; rintro e w' ⟨rfl, rfl⟩))
        go_ret
        exact ⟨by simp [popM, hk, hm], by simp only [popM, hk, hm]; exact NestRep.below ⟨_, h1, h2, H3.out⟩ (by assumption), Below.mono (by assumption) hb⟩
      · have hw := IntWalk.i64_in (r.length : Int) (by omega)
        have hle : r.length ≤ cap := by omega
        go_enter Tryd.func68, Tryd.ntmps68
        go_wp2_with (first | (go_at_call 66; refine (last_some _ _ _ _ _ hc hrl).mono ?_; rintro e w' ⟨rfl, hb1⟩; have hc1 := bcell hb1; have hf1 := bfroz hb1) | (go_at_call 71; refine (mapEnd_any _ _ p2).mono ?_; rintro e w' ⟨rfl, rfl⟩))
        refine still_tail 14 (by kernel_rfl) ?_
        simp only [List.take_succ_cons, List.take_zero, List.drop_succ_cons, List.drop_zero]
        repeat still_step
        refine wpStill_nil ?_
        go_wp2_with fail
        go_ret
        have g1 := h1.below (by assumption)
        have g3 := own_below H3.out (by assumption)
        have g4 := own_take g3 (m := r.length) (by simp)
        have g5 := ownsRow_setCell_other g4 (a := ⟨P, 0, none⟩) (own_block_ne g4 g1 (by decide)).symm (.slice (some ⟨g, 0, none⟩) r.length cap)
        have e1 : (nestCells (x :: r).reverse).take (r.length * 2) = nestCells r.reverse := by
          rw [List.reverse_cons, nestCells_snoc, List.take_append_of_le_length (by rw [nestCells_len, List.length_reverse]; exact Nat.le_refl _), List.take_of_length_le (by rw [nestCells_len, List.length_reverse]; exact Nat.le_refl _)]
        rw [e1] at g5
        exact ⟨by simp [popM, hk, hm], by simp only [popM, hk, hm]; exact ⟨_, g1.set 0 _, h2, g5⟩, ((Below.mono (by assumption) hb).setCell h2 _).drew⟩
    · have hk' : (x.1 != 4) = true := by simp [hk]
      go_enter Tryd.func68, Tryd.ntmps68
      go_wp2_with (go_at_call 66; refine (last_some _ _ _ _ _ hc hrl).mono ?_; rintro e w' ⟨rfl, hb1⟩; have hc1 := bcell hb1)
      go_ret
      exact ⟨by simp [popM, hk], by simp only [popM, hk]; exact NestRep.below ⟨_, h1, h2, H3.out⟩ (by assumption), Below.mono (by assumption) hb⟩
end Go.Proofs.YthkkcbfemmpfmaaDoor
