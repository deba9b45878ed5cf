import Derived.Test.YthkkcbfemmpfmaaDoorMaps
set_option linter.unusedSimpArgs false
set_option linter.unusedVariables false
namespace Go.Proofs.YthkkcbfemmpfmaaDoor
open Go.RowKit Go.Lib

theorem info_int : (Tryd.prog.info? 3).map (fun i => (i.zero, i.size, i.bytes)) = some (some (.int .i64 0), 1, 8) := by kernel_rfl
theorem cell_one_new' (w : World) (x : Value) (t : TypeId) : ∀ j u, [x][j]? = some u → (w.alloc (.cells #[x] t)).cell? ((⟨w.heap.size, 0, none⟩ : Addr).add j) = some u := by
  intro j u hu
  have h := Blk.new w [x] t
  cases j with
  | zero => exact h.cell (j := 0) hu
  | succ j => simp at hu
theorem append_int {ops : Array Oper} {rest : List Oper} {o : Oper} {a : Act} {Q : Exit → Act → World → Prop} (w : World) (hgd : o.guard = none) (s x : Operand)
    (ho : o.op = .call { callee := .builtin .append, args := #[s, x], argTypes := #[55, 55] }) {base n : Nat} (v : Value) (xs : List Value) (hs : a.eval s = v) (hown : w.ownsRow base 3 1 v n xs)
    (k : Value) (hx : a.eval x = .slice (some ⟨w.heap.size, 0, none⟩) 1 1) (h1 : k.oneCell' = true) (h63 : n + 1 ≤ maxLen) (hbytes : (n + 1) * 8 ≤ 140737488355328) (hbase : base ≤ w.heap.size)
    (h : ∀ g cap w', w'.ownsRow base 3 1 (.slice (some ⟨g, 0, none⟩) (n + 1) cap) (n + 1) (xs ++ [k]) → w.grownBy w' v.ownBlock → wpList Tryd.prog ops Q rest (a.put o.dst (.slice (some ⟨g, 0, none⟩) (n + 1) cap)) w') :
    wpList Tryd.prog ops Q (o :: rest) a (w.alloc (.cells #[k] 3)) := by
  obtain ⟨i0, hi, hz0, hz1, hz2⟩ := info_parts info_int
  refine wpList_append_own _ hgd s x 55 ho base 3 i0 (.int .i64 0) 1 8 Tryd.underlying55 hi hz0 hz1 hz2 rfl (by decide) v n xs hs (hown.alloc _) ⟨w.heap.size, 0, none⟩ 1 1 [k] hx rfl
    (cell_one_new' _ _ _) (by simp [h1]) h63 hbytes (by simp; omega) ?_
  intro v' w' h3 h4 _
  rcases own_forms h3 with ⟨_, h0, _⟩ | ⟨g, cap, rfl, _⟩
  · omega
  exact h g cap w' h3 (World.grownBy.trans (World.grownBy_alloc w _ _) h4)

theorem own_reads {w : World} {base : Nat} {e : TypeId} {size : Nat} {v : Value} {n : Nat} {xs : List Value} (h : w.ownsRow base e size v n xs) (hm : n ≤ 140737488351232) : ∃ A c, v = .slice A n c ∧ RRow w size A n xs := by
  rcases own_forms h with ⟨rfl, rfl, rfl⟩ | ⟨g, cap, rfl, _⟩
  · exact ⟨none, 0, rfl, by simp, by omega, by omega⟩
  · refine ⟨_, cap, rfl, h.1, hm, fun hn => ⟨g, 0, rfl, fun j u hu => ?_⟩⟩
    have hj := (List.getElem?_eq_some_iff.1 hu).1
    rw [h.1] at hj
    rw [Nat.zero_add, h.cellAt j hj, hu]
def intCells (l : List Int) : List Value := l.map fun n => .int .i64 n
theorem intCells_len (l : List Int) : (intCells l).length = l.length := by simp [intCells]
theorem intCells_at (l : List Int) (j : Nat) (h : j < l.length) : (intCells l)[j]? = some (.int .i64 l[j]) := by simp [intCells, h]
def keysOf : List Int → List Int
  | [] => []
  | [a] => [a]
  | a :: _ :: r => a :: keysOf r
theorem keysOf_drop (l : List Int) (i : Nat) (h : i < l.length) : keysOf (l.drop i) = l[i] :: keysOf (l.drop (i + 2)) := by
  rw [List.drop_eq_getElem_cons h]
  by_cases h2 : i + 1 < l.length
  · rw [List.drop_eq_getElem_cons h2, keysOf]
  · rw [List.drop_of_length_le (show l.length ≤ i + 1 by omega), List.drop_of_length_le (show l.length ≤ i + 2 by omega)]; rfl
theorem keysOf_le (l : List Int) : (keysOf l).length ≤ l.length := by
  fun_induction keysOf l <;> simp_all <;> omega

set_option maxHeartbeats 1000000 in
set_option maxRecDepth 100000 in
theorem keys_any (k : Int) (t x : ByteArray) (A : Option Addr) (n c : Nat) (ks : List Int) (w : World) (h : RRow w 1 A n (intCells ks)) (hb8 : n ≤ 17592186044414) :
    Calls Tryd.prog 76 #[.agg #[.int .i64 k, .string t, .string x, .slice A n c]] w
      fun e w' => ∃ A' c', e = .returned (.slice A' (keysOf ks).length c') ∧ RRow w' 1 A' (keysOf ks).length (intCells (keysOf ks)) ∧ Below w.heap.size w w' := by
  have hn : ks.length = n := by have := h.len; rw [intCells_len] at this; omega
  have hB0 : Below w.heap.size w (w.alloc (.cells #[.int .i64 k, .string t, .string x, .slice A n c] 57)) := (Below.refl _ _).alloc (Nat.le_refl _) _
  have hK0 := Blk.new w [.int .i64 k, .string t, .string x, .slice A n c] 57
  have HN := hid' hn
  have HR := hid' h
  clear hn h
  go_enter Tryd.func76, Tryd.ntmps76
  go_wp2_with fail
  go_loopw [2, 3] (fun v i wr => ∃ (j : Nat) (done : List Int), i = .int .i64 j ∧ j ≤ n + 1 ∧ done.length ≤ j ∧ Hid (keysOf ks = done ++ keysOf (ks.drop j)) ∧ Hid (wr.ownsRow w.heap.size 3 1 v done.length (intCells done)) ∧ Blk wr w.heap.size [.int .i64 k, .string t, .string x, .slice A n c] 57 ∧ Below w.heap.size w wr) (fun _ i _ => n + 2 - (intOf i).toNat)
  case atStart => exact ⟨0, [], rfl, by omega, Nat.le_refl _, rfl, World.ownsRow_nil _ _ _ _, hK0, hB0⟩
  case round =>
    obtain ⟨j, done, rfl, hj, hdl, hk, ho, hK, hB⟩ := hrel
    have kc := hK.cell (j := 3) rfl
    clear hB0 hK0
    by_cases hlt : j < n
    · obtain ⟨b, off, rfl, hc⟩ := (HR.out.below hB).cell (by omega)
      have hc1 := hc j _ (intCells_at ks j (by rw [HN.out]; exact hlt))
      have hd := keysOf_drop ks j (by rw [HN.out]; exact hlt)
      have hk' : Hid (keysOf ks = (done ++ [ks[j]'(by rw [HN.out]; exact hlt)]) ++ keysOf (ks.drop (j + 2))) := by show _ = _; rw [hk.out, hd, List.append_assoc]; rfl
      generalize ks[j]'(by rw [HN.out]; exact hlt) = y at hc1 hk'
      have hne := hid' (own_block_ne ho.out hK (by decide))
      have HA : Hid (done.length + 1 ≤ maxLen) := by show _ ≤ _; unfold maxLen; omega
      have HA2 : Hid ((done.length + 1) * 8 ≤ 140737488355328) := by show _ ≤ _; omega
      clear hc hd
      go_wp2_with (at_builtin; refine append_int _ rfl _ _ rfl _ _ rfl ho.out _ rfl rfl HA.out HA2.out hB.size ?_; intro g' cap' w1 hown hg; have hK := hK.grown hg hne.out; have hB := hB.grown hg hB.size (own_base ho.out); have ho := hid' hown; clear hown)
      go_roundw
      case rel => exact ⟨j + 2, done ++ [y], by go_num, by omega, by simp; omega, hk', by rw [List.length_append]; simpa [intCells, Hid] using ho.out, hK, hB⟩
      case measure => simp [intOf]; omega
    · have hk' : Hid (keysOf ks = done) := by
        have := hk.out; rw [List.drop_of_length_le (by rw [HN.out]; omega)] at this; simpa [keysOf, Hid] using this
      clear hk
      go_wp2_with fail
      go_ret
      have hl : done.length ≤ 140737488351232 := by omega
      obtain ⟨A', c', rfl, hr⟩ := own_reads ho.out hl
      exact ⟨A', c', by rw [hk'.out]; rfl, by rw [hk'.out]; exact hr, hB⟩
end Go.Proofs.YthkkcbfemmpfmaaDoor
