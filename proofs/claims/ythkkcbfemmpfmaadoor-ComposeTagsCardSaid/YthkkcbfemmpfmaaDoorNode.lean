import Derived.Test.YthkkcbfemmpfmaaDoorDoc3
import Derived.Deep.DeepCutAuto
import Derived.Deep.CutBlock
import Derived.Deep.AppendLies
set_option linter.unusedSimpArgs false
set_option linter.unusedVariables false
namespace Go.Proofs.YthkkcbfemmpfmaaDoor
open Go.RowKit Go.Lib

theorem grown_drew {w w1 : World} {row : Option Nat} (h : w.drew.grownBy w1 row) : w.grownBy w1 row := World.grownBy.trans (grown_of_below (Below.drew (Below.refl _ _)) row) h
theorem own_ne_lt {w : World} {base : Nat} {e : TypeId} {size n : Nat} {v : Value} {xs : List Value} (h : w.ownsRow base e size v n xs) {b : Nat} (hb : w.heap.size ≤ b) : some b ≠ v.ownBlock := fun e => by
  have := own_lt h e.symm; omega
theorem doc_len {B : Nat} {w : World} {p : Nat} {d : DocM} {gv ov : Value} {m : Nat} {kvs : List Value} (h : DocRep B w p d gv ov m kvs) : ∃ A c, gv = .slice A d.g.length c := by
  rcases own_forms h.graph with ⟨h1, h2, _⟩ | ⟨g, cap, h1, _⟩
  · exact ⟨none, 0, by rw [h1, h2]⟩
  · exact ⟨_, cap, h1⟩
theorem kidM_op (d : DocM) (a : Int) : (kidM d a).1.op = d.op := by
  unfold kidM
  split
  · rfl
  · split
    · split <;> rfl
    · rfl
theorem kidM_g (d : DocM) (a : Int) : (kidM d a).1.g.length = d.g.length := by
  unfold kidM
  split
  · rfl
  · split
    · split
      · rfl
      · exact addKid_len _ _ _
    · rfl
theorem all_one {l : List Value} (h : l.all Value.oneCell' = true) : ∀ u ∈ l, u.oneCell' = true := List.all_eq_true.1 h
/-- append in a region that draws: what is new was laid behind w. -/
theorem step_append_at {ops : Array Oper} {o : Oper} {a : Act} {K : Act → World → Prop} {Q : Exit → Act → World → Prop} {E : Prop} (w : World) (t e : TypeId) (z : Value) (size bytes : Nat) (hT : Tryd.prog.underlying t = some (.slice e))
    (hI : (Tryd.prog.info? e).map (fun i => (i.zero, i.size, i.bytes)) = some (some z, size, bytes)) (hzs : z.cells.size = size) (hsz : 0 < size) (hgd : o.guard = none) (s x : Operand)
    (ho : o.op = .call { callee := .builtin .append, args := #[s, x], argTypes := #[t, t] }) {base n : Nat} (v : Value) (xs : List Value) (hs : a.eval s = v) (hown : w.ownsRow base e size v n xs)
    (news : List Value) (hx : a.eval x = .slice (some ⟨w.heap.size, 0, none⟩) 1 1) (hl : news.length = size) (h1 : news.all Value.oneCell' = true) (h63 : n + 1 ≤ maxLen) (hbytes : (n + 1) * bytes ≤ 140737488355328) (hbase : base ≤ w.heap.size)
    (h : ∀ g cap w', w'.ownsRow base e size (.slice (some ⟨g, 0, none⟩) (n + 1) cap) (n + 1) (xs ++ news) → w.grownBy w' v.ownBlock → (some g = v.ownBlock ∨ w.heap.size ≤ g) → K (a.put o.dst (.slice (some ⟨g, 0, none⟩) (n + 1) cap)) w') :
    if Region.wanted o (yielded ops a.tmps) = true then Oper.wp Tryd.prog o a ((w.alloc (.cells news.toArray e)).drew) K Q else E := by
  obtain ⟨i0, hi, hz0, hz1, hz2⟩ := info_parts hI
  have hb : Below w.heap.size w (w.alloc (.cells news.toArray e)).drew := ((Below.refl _ _).alloc (Nat.le_refl _) _).drew
  refine step_append_lies _ hgd s x t ho base e i0 z size bytes hT hi hz0 hz1 hz2 hzs hsz v n xs hs (own_below hown hb) ⟨w.heap.size, 0, none⟩ 1 1 news hx (by omega) (by
    have := World.news_of_block (w := (w.alloc (.cells news.toArray e)).drew) (Blk.new w news e)
    simpa using this) (all_one h1) (by decide) h63 hbytes (Nat.le_trans hbase hb.size) _ rfl ?_
  intro g cap w' h2 h3 h4 _
  refine h g cap w' h2 (World.grownBy.trans (grown_of_below hb _) h3) ?_
  rcases h4 with h4 | h4
  · exact .inl h4.symm
  · right
    have : (w.alloc (.cells news.toArray e)).drew.heap.size = w.heap.size + 1 := by simp
    omega
def kindOf (k : Int) : Int := if k = 2 then 1 else if k = 4 then 2 else 0
theorem kindOf_2 {k : Int} (h : (k == 2) = true) : kindOf k = 1 := by simp only [beq_iff_eq] at h; simp [kindOf, h]
theorem kindOf_4 {k : Int} (h : (k == 4) = true) : kindOf k = 2 := by simp only [beq_iff_eq] at h; simp [kindOf, h]
theorem kindOf_0 {k : Int} (h : (k == 2) = false) (h' : (k == 4) = false) : kindOf k = 0 := by simp only [beq_eq_false_iff_ne, ne_eq] at h h'; simp [kindOf, h, h']
def newNode (d : DocM) (e : Ev) : DocM :=
  { d with g := d.g ++ [⟨kindOf e.kind, (tagE e).1, e.text, []⟩], names := if 0 < e.anchor.size then put d.names e.anchor d.g.length else d.names }
def nodeM (d : DocM) (e : Ev) : DocM × Int :=
  if 2000 ≤ d.g.length then (d, 16)
  else if (tagE e).2 ≠ 0 then (d, (tagE e).2)
  else
    let r := kidM (newNode d e) d.g.length
    (if kindOf e.kind = 0 then r.1 else { r.1 with op := r.1.op ++ [(d.g.length : Int)] }, r.2)

set_option maxHeartbeats 1000000 in
set_option maxRecDepth 100000 in
theorem node_ok {B p : Nat} {w : World} {d : DocM} {gv ov : Value} {m : Nat} {kvs : List Value} (h : DocRep B w p d gv ov m kvs) (k : Int) (a t x : ByteArray) (pl : Bool) (T : ByteArray)
    (hT : ∀ w, Calls Tryd.prog 10 #[.agg #[.int .i64 k, .string a, .string t, .string x, .bool pl]] w fun e w' => e = .returned (.tuple #[.string T, .int .i64 0]) ∧ Below w.heap.size w w')
    (hl : d.g.length < 2000) (hq : ∀ i (hi : i < d.g.length), d.g[i].kids.length ≤ 8796093022208) (ho : d.op.length ≤ 8796093022208) (D2 : DocM) (hD2 : D2 = { d with g := d.g ++ [⟨kindOf k, T, x, []⟩], names := if 0 < a.size then put d.names a d.g.length else d.names }) :
    Calls Tryd.prog 57 #[.pointer (some ⟨p, 0, none⟩), .agg #[.int .i64 k, .string a, .string t, .string x, .bool pl]] w
      fun e w' => e = .returned (.int .i64 (kidM D2 d.g.length).2) ∧ (∃ gv' ov' kvs', DocRep B w' p (if kindOf k = 0 then (kidM D2 d.g.length).1 else { (kidM D2 d.g.length).1 with op := (kidM D2 d.g.length).1.op ++ [(d.g.length : Int)] }) gv' ov' m kvs') ∧ KeepP B p w w' := by
  obtain ⟨GA, gc, rfl⟩ := doc_len h
  have hA0 := below1 w (.cells #[.int .i64 k, .string a, .string t, .string x, .bool pl] 30)
  have hE := Blk.new w [.int .i64 k, .string a, .string t, .string x, .bool pl] 30
  have h1 := hid' (h.below hA0)
  have hplt := h.blk.lt
  have a0 := h1.out.blk.cell (j := 0) rfl
  have HT := hid' hT
  have HW := hid' h.wB
  have HPB := hid' h.pB
  have HNA : Hid (d.g.length + 1 ≤ maxLen) := by show _ ≤ _; unfold maxLen; omega
  have HNB : Hid ((d.g.length + 1) * 64 ≤ 140737488355328) := by show _ ≤ _; omega
  have HOL := hid' ho
  have hDg : Hid (D2.g = d.g ++ [⟨kindOf k, T, x, []⟩]) := by show _ = _; rw [hD2]
  have HDO : Hid (D2.op = d.op) := by show _ = _; rw [hD2]
  have hDl : Hid (D2.g.length = d.g.length + 1) := by show _ = _; rw [hDg.out]; simp
  have HQ1 : Hid (∀ i (hi : i < D2.g.length), D2.g[i].kids.length ≤ 8796093022208) := by
    intro i hi
    simp only [hDg.out]
    by_cases e : i < d.g.length
    · rw [List.getElem_append_left e]; exact hq i e
    · have e2 : i = d.g.length := by have := hDl.out; omega
      subst e2
      simp
  have HD2 := hid' hD2
  clear h hT hq ho hD2
  go_enter Tryd.func57, Tryd.ntmps57
  go_upto_block 0 with (go_at_call 10; refine (HT.out _).mono ?_; rintro e w1 ⟨rfl, hb⟩; have hc := bcell hb; have hE1 := hE.below hb; have hl1 := hE1.lt; have e10 := hE1.cell (j := 0) rfl; have e13 := hE1.cell (j := 3) rfl; have hp1 := (h1.out.below hb).blk; have hpl1 := hp1.lt; have a1 := hp1.cell (j := 0) rfl)
  go_cut [] (fun wx => Below w1.heap.size w1 wx ∧ Blk wx w1.heap.size [.int .i64 (kindOf k), .string T, .string x, .slice none 0 0] 57)
  case first =>
    go_wp2_with fail
    all_goals go_meet
    all_goals exact ⟨below1 _ _, by
      first
        | (rw [kindOf_2 (by assumption)]; exact Blk.new w1 _ _)
        | (rw [kindOf_4 (by assumption)]; exact Blk.new w1 _ _)
        | (rw [kindOf_0 (by assumption) (by assumption)]; exact Blk.new w1 _ _)⟩
  case rest =>
    obtain ⟨hb2, hN⟩ := hcut
    have h3 := hid' ((h1.out.below hb).below hb2)
    have hE3 := hE1.below hb2
    have k3 : KeepP B p w wc := (KeepP.of_below (hA0.mono HW.out)).trans ((KeepP.of_below (hb.mono (Nat.le_trans HW.out hA0.size))).trans (KeepP.of_below (hb2.mono (h1.out.below hb).wB)))
    have K3 := hid' k3
    have hsz3 := hN.lt
    have hm1 := (h1.out.below hb).mp.lt
    have HGN := hid' (own_ne_lt (h1.out.below hb).graph (Nat.le_refl w1.heap.size))
    have HGE := hid' (own_block_ne h3.out.graph hE3 (by decide))
    have a3 := h3.out.blk.cell (j := 0) rfl
    have n30 := hN.cell (j := 0) rfl
    have n31 := hN.cell (j := 1) rfl
    have n32 := hN.cell (j := 2) rfl
    have n33 := hN.cell (j := 3) rfl
    have HB3 := hid' h3.out.wB
    go_upto_region 13 with fail
    go_cut [] (fun wx => (∃ g cap, some w1.heap.size ≠ some g ∧ DocRep B wx p { d with g := d.g ++ [⟨kindOf k, T, x, []⟩] } (.slice (some ⟨g, 0, none⟩) (d.g.length + 1) cap) ov m (kvs ++ [.slice none 0 0])) ∧ KeepP B p w wx ∧ Blk wx w1.heap.size [.int .i64 (kindOf k), .string T, .string x, .slice none 0 0] 57 ∧ Blk wx w.heap.size [.int .i64 k, .string a, .string t, .string x, .bool pl] 30)
    case first =>
      have a3' := (h3.out.below (below1 wc (.cells #[.int .i64 (kindOf k), .string T, .string x, .slice none 0 0] 57))).blk.cell (j := 0) rfl
      go_region_law (refine step_append_at wc 48 57 _ 4 64 Tryd.underlying48 info_node rfl (by decide) rfl _ _ (by rfl) (.slice GA d.g.length gc) _ (by rfl) h3.out.graph [.int .i64 (kindOf k), .string T, .string x, .slice none 0 0] (by rfl) rfl rfl HNA.out HNB.out HB3.out ?_; intro g cap w4 ho4 hg4 hat4; have HG4 := hid' hg4; have HO4 := hid' ho4; have HAT4 := hid' hat4; have hp4 := h3.out.blk.grown hg4 (own_block_ne h3.out.graph h3.out.blk (by decide)); have p4 := hp4.cell (j := 0) rfl; have f4 := hp4.free 0; clear ho4 hg4 hat4)
      all_goals
        go_wp2_with fail
        go_meet
        obtain ⟨h5, k5⟩ := h3.out.graphPush ⟨kindOf k, T, x, []⟩ rfl g cap HO4.out HG4.out
        have hgN : some wc.heap.size ≠ none := by simp
        refine ⟨⟨g, cap, ?_, h5⟩, K3.out.trans k5, (hN.grown HG4.out HGN.out).other (by simp only; omega) _, (hE3.grown HG4.out HGE.out).other (by simp only; omega) _⟩
        rcases HAT4.out with h9 | h9
        · rw [h9]; exact HGN.out
        · simp only [ne_eq, Option.some.injEq]; omega
    case rest =>
      obtain ⟨⟨g, cap, hgN, h5⟩, k5, N5, E5⟩ := hcut
      rename_i wd
      have H5 := hid' h5
      have K5 := hid' k5
      have HGN5 := hid' hgN
      have e51 := E5.cell (j := 1) rfl
      have a52 := h5.blk.cell (j := 2) rfl
      have hB5 := hid' h5.wB
      clear h5 k5 hgN a3 n30 n31 n32 n33
      go_upto_if 52 with fail
      go_cut [] (fun wx => DocRep B wx p D2 (.slice (some ⟨g, 0, none⟩) (d.g.length + 1) cap) ov m (kvs ++ [.slice none 0 0]) ∧ KeepP B p w wx ∧ Blk wx w1.heap.size [.int .i64 (kindOf k), .string T, .string x, .slice none 0 0] 57)
      case first =>
        by_cases ha : 0 < a.size
        · rw [isEmpty_false ha]
          have D5 := H5.out.below (Below.drew (Below.refl _ _))
          obtain ⟨w6, hu, hM6, ho6⟩ := map_update keyStr Tryd.underlying46 D5.mp a d.g.length
          obtain ⟨h6, k6⟩ := D5.name a d.g.length (by simp) hM6 ho6
          have hd : D2 = { g := d.g ++ [⟨kindOf k, T, x, []⟩], op := d.op, names := put d.names a d.g.length } := by rw [HD2.out]; simp [ha]
          have h6' : DocRep B w6 p D2 (.slice (some ⟨g, 0, none⟩) (d.g.length + 1) cap) ov m (kvs ++ [.slice none 0 0]) := by rw [hd]; exact h6
          have H6 := hid' h6'
          have K6 := hid' (K5.out.trans ((KeepP.of_below (Below.drew (Below.refl _ _))).trans k6))
          have N6 := hid' (show Blk w6 _ _ _ from (ho6.block w1.heap.size (by omega)).trans N5)
          clear D5 hM6 h6 h6' k6 hd
          go_wp2_with fail
          refine still_tail 7 (by kernel_rfl) ?_
          simp only [List.take_succ_cons, List.take_zero, List.drop_succ_cons, List.drop_zero]
          repeat still_step
          refine wpStill_nil ?_
          go_wp2_with fail
          go_meet
          case rel => exact ⟨H6.out, K6.out, N6.out⟩
        · rw [isEmpty_true ha]
          have hd : Hid (D2 = { d with g := d.g ++ [⟨kindOf k, T, x, []⟩] }) := by show _ = _; rw [HD2.out]; simp [ha]
          go_wp2_with fail
          go_meet
          case rel => exact ⟨by rw [hd.out]; exact H5.out, K5.out, N5⟩
      case rest =>
        obtain ⟨h6, k6, N6⟩ := hcut
        have H6 := hid' h6
        have K6 := hid' k6
        clear h6 k6 e51 a52
        go_upto_if 65 with (go_at_call 56; refine (kid_any H6.out d.g.length (by rw [hDl.out]; omega) HQ1.out).mono ?_; rintro e w7 ⟨rfl, ⟨kvs7, h7⟩, hk7, hf7⟩; have N7 : Blk w7 w1.heap.size _ _ := (hf7 _ N6.lt HGN5.out (fun x hx => by obtain ⟨n, xs, hx'⟩ := H6.out.mem (List.mem_cons_of_mem _ hx); exact (own_block_ne hx' N6 (by decide)).symm)).trans N6; have n7 := N7.cell (j := 0) rfl; have H7 := hid' h7; have K7 := hid' (K6.out.trans hk7); clear h7 hk7 hf7)
        by_cases hk0 : kindOf k = 0
        · have hb0 : (kindOf k != 0) = false := by simp [hk0]
          go_wp2_with fail
          go_ret
          exact ⟨rfl, ⟨_, _, _, by first | exact H7.out | (rw [if_pos hk0]; exact H7.out)⟩, K7.out⟩
        · have hb0 : (kindOf k != 0) = true := by simp [hk0]
          rw [hb0]
          have A7 := H7.out.blk.cell (j := 1) rfl
          have F7 := H7.out.blk.free 1
          have HB7 := hid' H7.out.wB
          have L7 : Hid ((kidM D2 d.g.length).1.op.length + 1 ≤ maxLen) := by show _ ≤ _; rw [kidM_op, HDO.out]; have := HOL.out; unfold maxLen; omega
          have M7 : Hid (((kidM D2 d.g.length).1.op.length + 1) * 8 ≤ 140737488355328) := by show _ ≤ _; rw [kidM_op, HDO.out]; have := HOL.out; omega
          have X7 := hid' (own_block_ne H7.out.opn H7.out.blk (by decide))
          go_wp2_with (at_builtin; refine append_at w7 55 3 _ 1 8 Tryd.underlying55 info_int rfl (by decide) rfl _ _ (by rfl) ov _ (by rfl) H7.out.opn [.int .i64 d.g.length] (by rfl) rfl rfl L7.out M7.out HB7.out ?_; intro g8 cap8 w8 ho8 hg8 hat8; have HG8 := hid' hg8; have HO8 := hid' ho8; have HAT8 := hid' hat8; have hp8 := H7.out.blk.grown hg8 X7.out; have p8 := hp8.cell (j := 1) rfl; have f8 := hp8.free 1; clear ho8 hg8 hat8)
          all_goals
            go_ret
            obtain ⟨h9, k9⟩ := H7.out.openPush d.g.length (by rw [kidM_g, hDl.out]; omega) g8 cap8 HO8.out HG8.out HAT8.out
            exact ⟨rfl, ⟨_, _, _, by first | exact h9 | (rw [if_neg hk0]; exact h9)⟩, K7.out.trans k9⟩
end Go.Proofs.YthkkcbfemmpfmaaDoor
