import Derived.Test.YthkkcbfemmpfmaaDoorNode2
set_option linter.unusedSimpArgs false
set_option linter.unusedVariables false
namespace Go.Proofs.YthkkcbfemmpfmaaDoor
open Go.RowKit Go.Lib

def docE : DocM := ⟨[], [], fun _ => none⟩
def takeD (d : DocM) (e : Ev) : DocM × Bool × Int :=
  if e.kind = 0 then (docE, false, 0)
  else if e.kind = 1 then (if twiceB d.g then (d, false, 12) else (d, true, 0))
  else if e.kind = 3 ∨ e.kind = 5 then ({ d with op := d.op.dropLast }, false, 0)
  else if e.kind = 7 then (match d.names e.anchor with | none => (d, false, 11) | some n => ((kidM d n).1, false, (kidM d n).2))
  else ((nodeM d e).1, false, (nodeM d e).2)

theorem own_weaken {w : World} {base b' : Nat} {e : TypeId} {size n : Nat} {v : Value} {xs : List Value} (h : w.ownsRow base e size v n xs) (hb : b' ≤ base) : w.ownsRow b' e size v n xs := by
  obtain ⟨hl, h⟩ := h
  refine ⟨hl, ?_⟩
  rcases h with h | ⟨g, cap, cur, h1, h2, h3⟩
  · exact .inl h
  · exact .inr ⟨g, cap, cur, h1, Nat.le_trans hb h2, h3⟩

set_option maxRecDepth 100000 in
theorem take_begin {p : Nat} {w : World} {x y z : Value} (hb : Blk w p [x, y, z] 64) (a t u : ByteArray) (pl : Bool) :
    Calls Tryd.prog 30 #[.pointer (some ⟨p, 0, none⟩), .agg #[.int .i64 0, .string a, .string t, .string u, .bool pl]] w
      fun e w' => e = .returned (.tuple #[.bool false, .int .i64 0]) ∧ (∃ m, DocRep w.heap.size w' p docE (.slice none 0 0) (.slice none 0 0) m []) ∧ KeepP w.heap.size p w w' := by
  have hA0 := below1 w (.cells #[.int .i64 0, .string a, .string t, .string u, .bool pl] 30)
  have hplt := hb.lt
  have hmm := @run_makeMap Tryd.prog
  have f0 := hb.free 0
  have f1 := hb.free 1
  have f2 := hb.free 2
  have c0 := hb.cell (j := 0) rfl
  have c1 := hb.cell (j := 1) rfl
  have c2 := hb.cell (j := 2) rfl
  have H := hid' hb
  clear hb
  go_enter Tryd.func30, Tryd.ntmps30
  go_wp2_with fail
  go_ret2
  have e0 := (((H.out.set 0 (.slice none 0 0)).set 1 (.slice none 0 0)).set 2 (.map (some (w.heap.size + 1)))).alloc (.cells #[.int .i64 0, .string a, .string t, .string u, .bool pl] 30)
  have hm := MapIs.new ((((w.setCell ⟨p, 0, none⟩ (.slice none 0 0)).setCell ⟨p, 1, none⟩ (.slice none 0 0)).setCell ⟨p, 2, none⟩ (.map (some (w.heap.size + 1)))).alloc (.cells #[.int .i64 0, .string a, .string t, .string u, .bool pl] 30)) (fun s : ByteArray => Value.string s)
  have hs : ((((w.setCell ⟨p, 0, none⟩ (.slice none 0 0)).setCell ⟨p, 1, none⟩ (.slice none 0 0)).setCell ⟨p, 2, none⟩ (.map (some (w.heap.size + 1)))).alloc (.cells #[.int .i64 0, .string a, .string t, .string u, .bool pl] 30)).heap.size = w.heap.size + 1 := by rw [World.size_alloc, setCell_heap, setCell_heap, setCell_heap]
  rw [hs] at hm
  refine ⟨rfl, ⟨w.heap.size + 1, ⟨e0.alloc _, hplt, ?_, World.ownsRow_nil _ _ _ _, rfl, by intro i hi; simp [docE] at hi, World.ownsRow_nil _ _ _ _, hm, by omega, by simp, by simp [docE], by simp [docE]⟩⟩, ?_⟩
  · rw [World.size_alloc, hs]; omega
  · have k3 : KeepP w.heap.size p w _ := KeepP.set (KeepP.set (KeepP.set (KeepP.refl w.heap.size p w) (j := 0) (.slice none 0 0)) (j := 1) (.slice none 0 0)) (j := 2) (.map (some (w.heap.size + 1)))
    refine (k3.trans (KeepP.of_below (Below.mono (below1 _ _) ?_))).trans (KeepP.of_below (Below.mono (below1 _ _) ?_))
    · rw [setCell_heap, setCell_heap, setCell_heap]; exact Nat.le_refl _
    · rw [hs]; omega

theorem rrow_of_own {w : World} {base : Nat} {e : TypeId} {size n cap : Nat} {A : Option Addr} {xs : List Value} (h : w.ownsRow base e size (.slice A n cap) n xs) (hm : n ≤ 140737488351232) : RRow w size A n xs := by
  refine ⟨h.1, hm, fun hn => ?_⟩
  rcases own_forms h with ⟨h1, h2, _⟩ | ⟨g, c, h1, _⟩
  · omega
  · simp only [Value.slice.injEq] at h1
    obtain ⟨rfl, _, rfl⟩ := h1
    refine ⟨g, 0, rfl, fun j u hu => ?_⟩
    have hj := (List.getElem?_eq_some_iff.1 hu).1
    rw [Nat.zero_add, h.cellAt j (by rw [← h.1]; exact hj)]
    exact hu
theorem rkid_of_own {w : World} {base : Nat} {kv : Value} {ks : List Int} (h : w.ownsRow base 3 1 kv ks.length (intCells ks)) (hm : ks.length ≤ 17592186044414) : RKid w kv ks := by
  rcases own_forms h with ⟨rfl, h2, _⟩ | ⟨g, c, rfl, _⟩
  · rw [h2] at h; exact ⟨none, 0, 0, rfl, rrow_of_own h (by omega), by omega⟩
  · exact ⟨_, _, _, rfl, rrow_of_own h (by omega), hm⟩
theorem rg_of_doc {B : Nat} {w : World} {p : Nat} {d : DocM} {A : Option Addr} {c : Nat} {ov : Value} {m : Nat} {kvs : List Value} (h : DocRep B w p d (.slice A d.g.length c) ov m kvs) {n : Nat} (hok : DocOK d n) (hn : n ≤ 8796093022208) : RG w A d.g.length d.g kvs :=
  ⟨rrow_of_own h.graph (by have := hok.g; omega), h.len, fun i hi kv hk => rkid_of_own (h.kid i hi kv hk) (by have := hok.kids i hi; omega), by have := hok.g; omega⟩

set_option maxRecDepth 100000 in
theorem take_end {B p : Nat} {w : World} {d : DocM} {gv ov : Value} {m : Nat} {kvs : List Value} (h : DocRep B w p d gv ov m kvs) (a t x : ByteArray) (pl : Bool) (n : Nat) (hok : DocOK d n) (hn : n ≤ 8796093022207) :
    Calls Tryd.prog 30 #[.pointer (some ⟨p, 0, none⟩), .agg #[.int .i64 1, .string a, .string t, .string x, .bool pl]] w
      fun e w' => e = .returned (.tuple #[.bool (!twiceB d.g), .int .i64 (if twiceB d.g then 12 else 0)]) ∧ Below w.heap.size w w' := by
  obtain ⟨GA, gc, rfl⟩ := doc_len h
  have hA0 := below1 w (.cells #[.int .i64 1, .string a, .string t, .string x, .bool pl] 30)
  have h1 := hid' (h.below hA0)
  have hplt := h.blk.lt
  have a0 := h1.out.blk.cell (j := 0) rfl
  have HG := hid' (rg_of_doc h1.out hok (by omega))
  clear h hok
  cases ht : twiceB d.g
  all_goals
    have HT := hid' ht
    clear ht
    go_enter Tryd.func30, Tryd.ntmps30
    go_wp2_with (go_at_call 41; refine (twice_any _ _ _ d.g kvs _ HG.out).mono ?_; rintro e w1 ⟨rfl, hb⟩; rw [HT.out])
    go_ret2
    exact ⟨rfl, hA0.trans (Below.mono (by assumption) hA0.size)⟩

set_option maxRecDepth 100000 in
theorem take_pop {B p : Nat} {w : World} {d : DocM} {gv ov : Value} {m : Nat} {kvs : List Value} (h : DocRep B w p d gv ov m kvs) (k : Int) (hk : k = 3 ∨ k = 5) (a t x : ByteArray) (pl : Bool) (hl : d.op ≠ []) :
    Calls Tryd.prog 30 #[.pointer (some ⟨p, 0, none⟩), .agg #[.int .i64 k, .string a, .string t, .string x, .bool pl]] w
      fun e w' => e = .returned (.tuple #[.bool false, .int .i64 0]) ∧ (∃ ov', DocRep B w' p { d with op := d.op.dropLast } gv ov' m kvs) ∧ KeepP B p w w' := by
  have hA0 := below1 w (.cells #[.int .i64 k, .string a, .string t, .string x, .bool pl] 30)
  have hpos : 0 < d.op.length := List.length_pos_iff.2 hl
  obtain ⟨l, hl1⟩ : ∃ l, d.op.length = l + 1 := ⟨d.op.length - 1, by omega⟩
  rcases own_forms h.opn with ⟨_, h0, _⟩ | ⟨ob, oc, rfl, _, _, hoc, hom⟩
  · omega
  rw [hl1] at h hoc
  have h1 := hid' (h.below hA0)
  have hplt := h.blk.lt
  have a1 := h1.out.blk.cell (j := 1) rfl
  have f1 := h1.out.blk.free 1
  have HW := hid' h.wB
  have HD := hid' (h.openPop hl1)
  have HL : Hid (d.op.take l = d.op.dropLast) := by show _ = _; rw [List.dropLast_eq_take]; congr 1; omega
  have hl9 : l + 1 ≤ 9223372036854775807 := by unfold maxLen at hom; omega
  have hw := IntWalk.i64_in (l : Int) (by omega)
  have hle : l ≤ oc := by omega
  clear h hl hl1 hom
  rcases hk with rfl | rfl
  all_goals
    go_enter Tryd.func30, Tryd.ntmps30
    go_wp2_with fail
    refine still_tail 14 (by kernel_rfl) ?_
    simp only [List.take_succ_cons, List.take_zero, List.drop_succ_cons, List.drop_zero]
    repeat still_step
    refine wpStill_nil ?_
    go_wp2_with fail
    go_ret2
    have hD1 := HD.out.1
    rw [HL.out] at hD1
    refine ⟨rfl, ⟨.slice (some ⟨ob, 0, none⟩) l oc, (hD1.below (below1 _ _)).below (Below.drew (Below.refl _ _))⟩, ?_⟩
    · exact (HD.out.2.trans (KeepP.of_below ((below1 _ _).mono hD1.wB))).trans (KeepP.of_below (Below.drew (Below.refl _ _)))

set_option maxRecDepth 100000 in
theorem take_alias {B p : Nat} {w : World} {d : DocM} {gv ov : Value} {m : Nat} {kvs : List Value} (h : DocRep B w p d gv ov m kvs) (a t x : ByteArray) (pl : Bool) (n : Nat) (hok : DocOK d n) (hn : n ≤ 8796093022207) (r : DocM × Int) (hr : r = (match d.names a with | none => (d, 11) | some n => kidM d n)) :
    Calls Tryd.prog 30 #[.pointer (some ⟨p, 0, none⟩), .agg #[.int .i64 7, .string a, .string t, .string x, .bool pl]] w
      fun e w' => e = .returned (.tuple #[.bool false, .int .i64 r.2]) ∧ (∃ kvs', DocRep B w' p r.1 gv ov m kvs') ∧ KeepP B p w w' := by
  have hA0 := below1 w (.cells #[.int .i64 7, .string a, .string t, .string x, .bool pl] 30)
  have hE := Blk.new w [.int .i64 7, .string a, .string t, .string x, .bool pl] 30
  have h1 := hid' (h.below hA0)
  have hplt := h.blk.lt
  have a2 := h1.out.blk.cell (j := 2) rfl
  have e1 := hE.cell (j := 1) rfl
  have HW := hid' h.wB
  have h2 := hid' (h1.out.below (Below.drew (Below.refl _ _)))
  have K2 := hid' ((KeepP.of_below (hA0.mono HW.out)).trans (KeepP.of_below (B := B) (p := p) (Below.drew (Below.refl B (w.alloc (.cells #[.int .i64 7, .string a, .string t, .string x, .bool pl] 30))))))
  have hlk := (map_lookup keyStr Tryd.underlying46 h2.out.mp a).2
  cases hna : d.names a with
  | none =>
    rw [hna] at hr hlk
    simp only at hr
    subst hr
    simp only [Option.getD_none, Option.isSome_none] at hlk
    clear h hok hna
    go_enter Tryd.func30, Tryd.ntmps30
    go_wp2_with fail
    go_region
    all_goals
      go_wp2_with fail
      go_ret2
      exact ⟨rfl, ⟨_, h2.out⟩, K2.out⟩
  | some z =>
    rw [hna] at hr hlk
    simp only at hr
    subst hr
    simp only [Option.getD_some, Option.isSome_some] at hlk
    obtain ⟨z1, z2⟩ := h.isName a z hna
    obtain ⟨zn, rfl⟩ := Int.eq_ofNat_of_zero_le z1
    have hzn : zn < d.g.length := by omega
    have HQ : Hid (∀ i (hi : i < d.g.length), d.g[i].kids.length ≤ 8796093022208) := fun i hi => by have := hok.kids i hi; omega
    clear h hok hna z1 z2
    go_enter Tryd.func30, Tryd.ntmps30
    go_wp2_with fail
    go_region
    all_goals
      go_wp2_with (go_at_call 56; refine (kid_any h2.out zn hzn HQ.out).mono ?_; rintro e w7 ⟨rfl, ⟨kvs7, h7⟩, hk7, hf7⟩; have H7 := hid' h7; have K7 := hid' hk7; clear h7 hk7 hf7)
      go_ret2
      exact ⟨rfl, ⟨_, H7.out⟩, K2.out.trans K7.out⟩

set_option maxRecDepth 100000 in
theorem take_node {B p : Nat} {w : World} {d : DocM} {gv ov : Value} {m : Nat} {kvs : List Value} (h : DocRep B w p d gv ov m kvs) (k : Int) (hk : k = 2 ∨ k = 4 ∨ k = 6) (a t x : ByteArray) (pl : Bool) (hx : x.size ≤ 140737488351232) (n : Nat) (hok : DocOK d n) (hn : n ≤ 8796093022207) :
    Calls Tryd.prog 30 #[.pointer (some ⟨p, 0, none⟩), .agg #[.int .i64 k, .string a, .string t, .string x, .bool pl]] w
      fun e w' => e = .returned (.tuple #[.bool false, .int .i64 (nodeM d ⟨k, a, t, x, pl⟩).2]) ∧ (∃ gv' ov' kvs', DocRep B w' p (nodeM d ⟨k, a, t, x, pl⟩).1 gv' ov' m kvs') ∧ KeepP B p w w' := by
  have hA0 := below1 w (.cells #[.int .i64 k, .string a, .string t, .string x, .bool pl] 30)
  have h1 := hid' (h.below hA0)
  have HW := hid' h.wB
  have HOK := hid' hok
  clear h hok
  generalize hr : nodeM d ⟨k, a, t, x, pl⟩ = r
  have HR := hid' hr
  clear hr
  rcases hk with rfl | rfl | rfl
  all_goals
    go_enter Tryd.func30, Tryd.ntmps30
    go_wp2_with (go_at_call 57; refine (docnode_any h1.out _ a t x pl hx n HOK.out hn).mono ?_; rw [HR.out]; rintro e w7 ⟨rfl, ⟨gv7, ov7, kvs7, h7⟩, hk7⟩; have H7 := hid' h7; have K7 := hid' hk7; clear h7 hk7)
    go_ret2
    exact ⟨rfl, ⟨_, _, _, H7.out⟩, (KeepP.of_below (hA0.mono HW.out)).trans K7.out⟩
end Go.Proofs.YthkkcbfemmpfmaaDoor
