import Derived.Test.YthkkcbfemmpfmaaDoorDoc
set_option linter.unusedSimpArgs false
set_option linter.unusedVariables false
namespace Go.Proofs.YthkkcbfemmpfmaaDoor
open Go.RowKit Go.Lib

theorem own_heap {w : World} {base : Nat} {e : TypeId} {size n : Nat} {v : Value} {xs : List Value} (h : w.ownsRow base e size v n xs) {g : Nat} (hg : v.ownBlock = some g) : ∃ cur, w.heap[g]? = some (.cells cur e (0, 0)) := by
  rcases h.2 with ⟨rfl, _⟩ | ⟨g', cap, cur, rfl, _, hh, _⟩
  · simp [Value.ownBlock] at hg
  · simp only [Value.ownBlock, Option.some.injEq] at hg
    subst hg
    exact ⟨cur, hh⟩
theorem own_type_ne {w : World} {b b' : Nat} {e e' : TypeId} {s s' n n' : Nat} {v v' : Value} {xs xs' : List Value} (h : w.ownsRow b e s v n xs) (h' : w.ownsRow b' e' s' v' n' xs') (hne : e ≠ e') : apartV v v' := by
  cases hv : v.ownBlock with
  | none => exact .inl hv
  | some g =>
    refine .inr fun hk => ?_
    rw [hv] at hk
    obtain ⟨c1, h1⟩ := own_heap h hv
    obtain ⟨c2, h2⟩ := own_heap h' hk.symm
    rw [h1] at h2
    simp only [Option.some.injEq, Obj.cells.injEq] at h2
    exact hne h2.2.1
theorem map_ne_own {α : Type} {w : World} {b : Nat} {e : TypeId} {s n m : Nat} {v : Value} {xs : List Value} {enc : α → Value} {f : α → Option Int} (h : w.ownsRow b e s v n xs) (hm : MapIs w m enc f) : some m ≠ v.ownBlock := by
  intro hk
  obtain ⟨c1, h1⟩ := own_heap h hk.symm
  obtain ⟨arr, c, hm⟩ := hm
  rw [hm.heap] at h1
  cases h1
theorem apart_set {l : List Value} (h : l.Pairwise apartV) (k : Nat) (hk : k < l.length) (v : Value) (hv : v.ownBlock = l[k].ownBlock ∨ ∀ x ∈ l, x.ownBlock ≠ v.ownBlock) : (l.set k v).Pairwise apartV := by
  rw [List.pairwise_iff_getElem]
  intro i j hi hj hij
  rw [List.length_set] at hi hj
  have h0 := List.pairwise_iff_getElem.1 h i j hi hj hij
  rw [List.getElem_set, List.getElem_set]
  by_cases e1 : k = i
  · subst e1
    have : ¬ k = j := by omega
    simp only [if_true, this, if_false]
    rcases hv with hv | hv
    · unfold apartV at *; rw [hv]; exact h0
    · exact apartV_symm (.inr (hv _ (List.getElem_mem hj)))
  · by_cases e2 : k = j
    · subst e2
      simp only [e1, if_false, if_true]
      rcases hv with hv | hv
      · unfold apartV at *; rw [hv]; exact h0
      · exact .inr (hv _ (List.getElem_mem hi))
    · simp only [e1, e2, if_false]; exact h0
theorem own_lt {w : World} {base : Nat} {e : TypeId} {size n : Nat} {v : Value} {xs : List Value} (h : w.ownsRow base e size v n xs) {g : Nat} (hg : v.ownBlock = some g) : g < w.heap.size := (h.lt g hg).2

theorem DocRep.mem {B : Nat} {w : World} {p : Nat} {d : DocM} {gv ov : Value} {m : Nat} {kvs : List Value} (h : DocRep B w p d gv ov m kvs) {x : Value} (hx : x ∈ ov :: kvs) : ∃ n xs, w.ownsRow B 3 1 x n xs := by
  rcases List.mem_cons.1 hx with rfl | hx
  · exact ⟨_, _, h.opn⟩
  · obtain ⟨i, hi⟩ := List.mem_iff_getElem?.1 hx
    have hl := (List.getElem?_eq_some_iff.1 hi).1
    exact ⟨_, _, h.kid i (by rw [← h.len]; exact hl) x hi⟩

/-- a row of one of the kids is written to, or laid anew; the graph's cell is set -/
theorem DocRep.kidSet {B : Nat} {w w1 : World} {p : Nat} {d : DocM} {gb gc : Nat} {ov : Value} {m : Nat} {kvs : List Value} (h : DocRep B w p d (.slice (some ⟨gb, 0, none⟩) d.g.length gc) ov m kvs) (k : Nat) (hk : k < d.g.length) (kv : Value) (hkv : kvs[k]? = some kv) (a : Int) (g cap : Nat)
    (ho : w1.ownsRow B 3 1 (.slice (some ⟨g, 0, none⟩) (d.g[k].kids.length + 1) cap) (d.g[k].kids.length + 1) (intCells d.g[k].kids ++ [.int .i64 a])) (hg : w.grownBy w1 kv.ownBlock) (hat : some g = kv.ownBlock ∨ w.heap.size ≤ g) :
    DocRep B (w1.setCell ⟨gb, k * 4 + 3, none⟩ (.slice (some ⟨g, 0, none⟩) (d.g[k].kids.length + 1) cap)) p { d with g := addKid d.g k a } (.slice (some ⟨gb, 0, none⟩) d.g.length gc) ov m (kvs.set k (.slice (some ⟨g, 0, none⟩) (d.g[k].kids.length + 1) cap)) ∧
    KeepP B p w (w1.setCell ⟨gb, k * 4 + 3, none⟩ (.slice (some ⟨g, 0, none⟩) (d.g[k].kids.length + 1) cap)) := by
  have hkl : k < kvs.length := by rw [h.len]; exact hk
  have hkv' : kvs[k] = kv := by rw [List.getElem?_eq_getElem hkl] at hkv; exact Option.some.inj hkv
  have hkid := h.kid k hk kv hkv
  have hgB : B ≤ gb := own_base h.graph gb rfl
  have hgl : gb < w.heap.size := own_lt h.graph rfl
  have g1 := h.graph.kept hg (own_type_ne h.graph hkid (by decide))
  have b1 := h.blk.grown hg (own_block_ne hkid h.blk (by decide))
  have hpg : p ≠ gb := by have := h.pB; omega
  have hgg : gb ≠ g := by
    rintro rfl
    rcases own_type_ne g1 ho (by decide) with h9 | h9
    · simp [Value.ownBlock] at h9
    · exact h9 rfl
  have keepRow : ∀ {x : Value} {n : Nat} {xs : List Value}, w.ownsRow B 3 1 x n xs → apartV x kv → (w1.setCell ⟨gb, k * 4 + 3, none⟩ (.slice (some ⟨g, 0, none⟩) (d.g[k].kids.length + 1) cap)).ownsRow B 3 1 x n xs := by
    intro x n xs hx hap
    have h1 := hx.kept hg hap
    refine ownsRow_setCell_other h1 ?_ _
    intro e
    rcases own_type_ne h1 g1 (by decide) with h9 | h9
    · rw [h9] at e; cases e
    · exact h9 e
  refine ⟨⟨b1.other hpg _, h.pB, ?_, ?_, by simp [h.len, addKid_len], ?_, ?_, ?_, h.mB, ?_, ?_, ?_⟩, ?_⟩
  · have := hg.size; simp only [World.setCell, Array.size_modify]; have := h.wB; omega
  · have e1 := ndCells_set d.g kvs k (.slice (some ⟨g, 0, none⟩) (d.g[k].kids.length + 1) cap) (d.g[k].kids ++ [a]) h.len hk
    have e2 : (d.g.modify k fun n => { n with kids := d.g[k].kids ++ [a] }) = addKid d.g k a := by
      apply List.ext_getElem (by simp [addKid])
      intro i h1 h2
      simp only [addKid, List.getElem_modify]
      split
      · rename_i e; subst e; rfl
      · rfl
    rw [e2] at e1
    rw [← e1, addKid_len]
    exact own_set g1 _ _
  · intro i hi x hx
    rw [addKid_len] at hi
    rw [List.getElem?_set] at hx
    by_cases e : k = i
    · subst e
      rw [if_pos rfl, if_pos hkl] at hx
      obtain rfl := Option.some.inj hx
      have e3 : (addKid d.g k a)[k]'(by rw [addKid_len]; exact hk) = { d.g[k] with kids := d.g[k].kids ++ [a] } := by rw [addKid_at d.g k a k hk, if_pos rfl]
      simp only [e3, List.length_append, List.length_cons, List.length_nil]
      have : intCells (d.g[k].kids ++ [a]) = intCells d.g[k].kids ++ [.int .i64 a] := by simp [intCells]
      rw [this]
      exact ownsRow_setCell_other ho (by simp only [Value.ownBlock, ne_eq, Option.some.injEq]; omega) _
    · rw [if_neg e] at hx
      have e3 : (addKid d.g k a)[i]'(by rw [addKid_len]; exact hi) = d.g[i] := by rw [addKid_at d.g k a i hi, if_neg e]
      simp only [e3]
      have hil : i < kvs.length := by rw [h.len]; exact hi
      have hxi : kvs[i] = x := by rw [List.getElem?_eq_getElem hil] at hx; exact Option.some.inj hx
      refine keepRow (h.kid i hi x hx) ?_
      rw [← hxi, ← hkv']
      exact pairwise_get (List.pairwise_cons.1 h.apart).2 hil hkl (fun e' => e e'.symm)
  · refine keepRow h.opn ?_
    rw [← hkv']
    exact (List.pairwise_cons.1 h.apart).1 _ (List.getElem_mem hkl)
  · refine h.mp.kept ?_
    rw [Below.heap_setCell _ _ _ _ (by intro e; simp only at e; subst e; exact absurd rfl (map_ne_own h.graph h.mp)), hg.block m h.mp.lt (map_ne_own hkid h.mp)]
  · have hs := apart_set h.apart (k + 1) (by simp; exact hkl) (.slice (some ⟨g, 0, none⟩) (d.g[k].kids.length + 1) cap) (by
      rcases hat with hat | hat
      · left; simp only [List.getElem_cons_succ, hkv']; exact hat
      · right; intro x hx he
        obtain ⟨n, xs, hx'⟩ := h.mem hx
        simp only [Value.ownBlock] at he
        have := own_lt hx' he
        omega)
    simpa using hs
  · intro o ho'; rw [addKid_len]; exact h.isOpen o ho'
  · intro s n hs; rw [addKid_len]; exact h.isName s n hs
  · refine KeepP.setO ⟨hg.os, hg.tape, hg.output, hg.size, fun i hi hp => hg.block i (by have := h.wB; omega) ?_⟩ hgB _
    intro e
    have := own_base hkid i e.symm
    omega

/-- (*doc).kid -/
theorem kid_any {B p : Nat} {w : World} {d : DocM} {gv ov : Value} {m : Nat} {kvs : List Value} (h : DocRep B w p d gv ov m kvs) (at_ : Nat) (ha : at_ < d.g.length) (hq : ∀ i (hi : i < d.g.length), d.g[i].kids.length ≤ 8796093022208) :
    Calls Tryd.prog 56 #[.pointer (some ⟨p, 0, none⟩), .int .i64 at_] w fun e w' => e = .returned (.int .i64 (kidM d at_).2) ∧ (∃ kvs', DocRep B w' p (kidM d at_).1 gv ov m kvs') ∧ KeepP B p w w' ∧ (∀ b, b < w.heap.size → some b ≠ gv.ownBlock → (∀ x ∈ kvs, x.ownBlock ≠ some b) → w'.heap[b]? = w.heap[b]?) := by
  cases ho : d.op.getLast? with
  | none =>
    have hnil : d.op = [] := by simpa using ho
    refine (kid_nil B p w d gv ov m kvs at_ h hnil).mono ?_
    rintro e w' ⟨rfl, rfl⟩
    have : kidM d at_ = (d, 0) := by simp [kidM, ho]
    rw [this]
    exact ⟨rfl, ⟨kvs, h⟩, KeepP.refl _ _ _, fun _ _ _ _ => rfl⟩
  | some o =>
    obtain ⟨gb, gc, ob, oc, l, k, kc, KA, hk, rfl, rfl, rfl, c1, hkv, hgB, hl1, hl2, hl3, cg, c3⟩ := kid_facts h ho
    have a0 := h.blk.cell (j := 0) rfl
    have a1 := h.blk.cell (j := 1) rfl
    have hgl : d.g.length ≤ 9223372036854775807 := by
      rcases own_forms h.graph with ⟨_, h0, _⟩ | ⟨_, _, _, _, _, hc, hm⟩
      · omega
      · simp only [maxLen] at hm; omega
    have hm : kidM d at_ = if d.g[k].kind = 2 ∧ d.g[k].kids.length % 2 = 0 ∧ d.g[at_].kind ≠ 0 then (d, 5) else ({ d with g := addKid d.g k at_ }, 0) := by
      simp only [kidM, ho, Int.toNat_natCast, List.getElem?_eq_getElem hk, List.getElem?_eq_getElem ha]
    rw [hm]
    by_cases hc : d.g[k].kind = 2 ∧ d.g[k].kids.length % 2 = 0 ∧ d.g[at_].kind ≠ 0
    · rw [if_pos hc]
      obtain ⟨c2, cp, cm⟩ := hc
      have ck := cg k hk
      rw [c2] at ck
      refine (kid_err_walk p gb _ gc ob l oc k at_ _ kc KA _ (.bool false) w a0 a1 c1 ck (cg at_ ha) c3 hk ha hgl hl1 (by have := hq k hk; omega) cp cm).mono ?_
      rintro e w' ⟨rfl, hb⟩
      exact ⟨rfl, ⟨kvs, h.below hb⟩, KeepP.of_below (hb.mono h.wB), fun b hbl _ _ => hb.block b hbl⟩
    · rw [if_neg hc]
      have hkid := h.kid k hk _ hkv
      refine (kid_ok_walk B p gb _ gc ob l oc k at_ _ kc KA _ _ _ w a0 a1 c1 (cg k hk) (cg at_ ha) c3 (h.graph.frozenAt _) hkid ?_ h.wB hk ha hgl hl1 (hq k hk) hc).mono ?_
      · intro e
        rcases own_type_ne h.graph hkid (by decide) with h9 | h9
        · simp [Value.ownBlock] at h9
        · exact h9 e
      · rintro e w' ⟨rfl, g, cap, w1, rfl, ho1, hg1, hat⟩
        obtain ⟨r1, r2⟩ := h.kidSet k hk _ hkv at_ g cap ho1 hg1 hat
        refine ⟨rfl, ⟨_, r1⟩, r2, fun b hbl hn hk' => ?_⟩
        rw [Below.heap_setCell _ _ _ _ (by intro e; exact hn (by rw [e]; rfl)), hg1.block b hbl (fun e => hk' _ (List.mem_of_getElem? hkv) e.symm)]
end Go.Proofs.YthkkcbfemmpfmaaDoor
