import Derived.Test.YthkkcbfemmpfmaaDoorApp
set_option linter.unusedSimpArgs false
set_option linter.unusedVariables false
namespace Go.Proofs.YthkkcbfemmpfmaaDoor
open Go.RowKit Go.Lib

/-! ### compose.doc -/
structure DocM where
  g : List Nd
  op : List Int
  names : ByteArray → Option Int
def addKid (g : List Nd) (o : Nat) (at_ : Int) : List Nd := g.modify o fun n => { n with kids := n.kids ++ [at_] }
def kidM (d : DocM) (at_ : Int) : DocM × Int :=
  match d.op.getLast? with
  | none => (d, 0)
  | some o =>
    match d.g[o.toNat]?, d.g[at_.toNat]? with
    | some n, some m => if n.kind = 2 ∧ n.kids.length % 2 = 0 ∧ m.kind ≠ 0 then (d, 5) else ({ d with g := addKid d.g o.toNat at_ }, 0)
    | _, _ => (d, 0)
/-- two slices that share no memory -/
def apartV (a b : Value) : Prop := a.ownBlock = none ∨ a.ownBlock ≠ b.ownBlock
structure DocRep (B : Nat) (w : World) (p : Nat) (d : DocM) (gv ov : Value) (m : Nat) (kvs : List Value) : Prop where
  blk : Blk w p [gv, ov, .map (some m)] 64
  pB : p < B
  wB : B ≤ w.heap.size
  graph : w.ownsRow B 57 4 gv d.g.length (ndCells d.g kvs)
  len : kvs.length = d.g.length
  kid : ∀ i (h : i < d.g.length) kv, kvs[i]? = some kv → w.ownsRow B 3 1 kv d.g[i].kids.length (intCells d.g[i].kids)
  opn : w.ownsRow B 3 1 ov d.op.length (intCells d.op)
  mp : MapIs w m (fun s : ByteArray => Value.string s) d.names
  mB : B ≤ m
  apart : (ov :: kvs).Pairwise apartV
  isOpen : ∀ o ∈ d.op, 0 ≤ o ∧ o < d.g.length
  isName : ∀ s n, d.names s = some n → 0 ≤ n ∧ n < d.g.length
/-- below B nothing has turned, but block p -/
structure KeepP (B p : Nat) (w w' : World) : Prop where
  os : w'.os = w.os
  tape : w'.tape = w.tape
  output : w'.output = w.output
  size : w.heap.size ≤ w'.heap.size
  block : ∀ k, k < B → k ≠ p → w'.heap[k]? = w.heap[k]?
theorem KeepP.refl (B p : Nat) (w : World) : KeepP B p w w := ⟨rfl, rfl, rfl, Nat.le_refl _, fun _ _ _ => rfl⟩
theorem KeepP.trans {B p : Nat} {a b c : World} (h : KeepP B p a b) (k : KeepP B p b c) : KeepP B p a c :=
  ⟨k.os.trans h.os, k.tape.trans h.tape, k.output.trans h.output, Nat.le_trans h.size k.size, fun i hi hp => (k.block i hi hp).trans (h.block i hi hp)⟩
theorem KeepP.of_below {B p : Nat} {w w' : World} (h : Below B w w') : KeepP B p w w' := ⟨h.os, h.tape, h.output, h.size, fun k hk _ => h.block k hk⟩
theorem KeepP.set {B p : Nat} {w w' : World} (h : KeepP B p w w') {j : Nat} (v : Value) : KeepP B p w (w'.setCell ⟨p, j, none⟩ v) :=
  h.trans ⟨rfl, rfl, rfl, by simp [World.setCell], fun k hk hp => Below.heap_setCell _ _ _ _ hp⟩
theorem KeepP.setO {B p b : Nat} {w w' : World} (h : KeepP B p w w') (hb : B ≤ b) {j : Nat} (v : Value) : KeepP B p w (w'.setCell ⟨b, j, none⟩ v) :=
  h.trans ⟨rfl, rfl, rfl, by simp [World.setCell], fun k hk hp => Below.heap_setCell _ _ _ _ (by simp only; omega)⟩
theorem KeepP.below {B p : Nat} {w w' w'' : World} (h : KeepP B p w w') (hb : Below w'.heap.size w' w'') (hB : B ≤ w'.heap.size) : KeepP B p w w'' := h.trans (.of_below (hb.mono hB))

theorem apartV_symm {a b : Value} (h : apartV a b) : apartV b a := by
  unfold apartV at *
  rcases h with h | h
  · cases hb : b.ownBlock
    · exact .inl rfl
    · rw [h]; exact .inr (by simp)
  · exact .inr (fun e => h e.symm)
theorem DocRep.below {B : Nat} {w w' : World} {p : Nat} {d : DocM} {gv ov : Value} {m : Nat} {kvs : List Value} (h : DocRep B w p d gv ov m kvs) (hb : Below w.heap.size w w') : DocRep B w' p d gv ov m kvs :=
  ⟨h.blk.below hb, h.pB, Nat.le_trans h.wB hb.size, own_below h.graph hb, h.len, fun i hi kv hk => own_below (h.kid i hi kv hk) hb, own_below h.opn hb, h.mp.below hb, h.mB, h.apart, h.isOpen, h.isName⟩

theorem kid_nil (B p : Nat) (w : World) (d : DocM) (gv ov : Value) (m : Nat) (kvs : List Value) (at_ : Int) (h : DocRep B w p d gv ov m kvs) (ho : d.op = []) :
    Calls Tryd.prog 56 #[.pointer (some ⟨p, 0, none⟩), .int .i64 at_] w fun e w' => e = .returned (.int .i64 0) ∧ w = w' := by
  have hc := h.blk.cell (j := 1) rfl
  have hl := h.opn
  rw [ho] at hl
  rcases own_forms hl with ⟨rfl, _⟩ | ⟨g, cap, rfl, _⟩
  · clear h hl
    go_enter Tryd.func56, Tryd.ntmps56
    go_wp2_with fail
    go_ret
    exact ⟨rfl, rfl⟩
  · clear h hl
    simp only [List.length_nil] at hc
    go_enter Tryd.func56, Tryd.ntmps56
    go_wp2_with fail
    go_ret
    exact ⟨rfl, rfl⟩

/-- The facts that kid's walk reads. -/
theorem kid_facts {B p : Nat} {w : World} {d : DocM} {gv ov : Value} {m : Nat} {kvs : List Value} (h : DocRep B w p d gv ov m kvs) {o : Int} (ho : d.op.getLast? = some o) :
    ∃ (gb gc ob oc l k kc : Nat) (KA : Option Addr) (hk : k < d.g.length), gv = .slice (some ⟨gb, 0, none⟩) d.g.length gc ∧ ov = .slice (some ⟨ob, 0, none⟩) (l + 1) oc ∧ o = (k : Int) ∧
      w.cell? ⟨ob, l, none⟩ = some (.int .i64 k) ∧ kvs[k]? = some (.slice KA (d.g[k]).kids.length kc) ∧ B ≤ gb ∧ l + 1 ≤ 9223372036854775807 ∧ d.op.length = l + 1 ∧ l + 1 ≤ oc ∧
      (∀ i (hi : i < d.g.length), w.cell? ⟨gb, i * 4, none⟩ = some (.int .i64 d.g[i].kind)) ∧ w.cell? ⟨gb, k * 4 + 3, none⟩ = some (.slice KA (d.g[k]).kids.length kc) := by
  have hne : d.op ≠ [] := by intro e; rw [e] at ho; simp at ho
  have hlast : d.op.getLast hne = o := by rw [List.getLast?_eq_some_getLast hne] at ho; exact Option.some.inj ho
  obtain ⟨o1, o2⟩ := h.isOpen o (by rw [← hlast]; exact List.getLast_mem hne)
  obtain ⟨k, rfl⟩ := Int.eq_ofNat_of_zero_le o1
  have hk : k < d.g.length := by omega
  have hpos : 0 < d.op.length := List.length_pos_iff.2 hne
  rcases own_forms h.graph with ⟨_, h0, _⟩ | ⟨gb, gc, hgv, hgB, _⟩
  · omega
  rcases own_forms h.opn with ⟨_, h0, _⟩ | ⟨ob, oc, hov, _, _, hoc, hom⟩
  · omega
  have hkv : k < kvs.length := by rw [h.len]; exact hk
  have hkid := h.kid k hk kvs[k] (by simp [hkv])
  obtain ⟨KA, kc, hKA⟩ : ∃ KA kc, kvs[k] = .slice KA (d.g[k]).kids.length kc := by
    rcases own_forms hkid with ⟨h1, h2, _⟩ | ⟨g, cap, h1, _⟩
    · exact ⟨none, 0, by rw [h1, h2]⟩
    · exact ⟨_, cap, h1⟩
  have hg := h.graph
  rw [hgv] at hg
  have hop := h.opn
  rw [hov] at hop
  obtain ⟨l, hl⟩ : ∃ l, d.op.length = l + 1 := ⟨d.op.length - 1, by omega⟩
  refine ⟨gb, gc, ob, oc, l, k, kc, KA, hk, hgv, by rw [hov, hl], rfl, ?_, by simp [hkv, hKA], hgB, by simp only [maxLen] at hom; omega, hl, by omega, ?_, ?_⟩
  · have hc := hop.cellAt l (by omega)
    rw [hc, intCells_at d.op l (by omega)]
    have : d.op[l]'(by omega) = (k : Int) := by
      rw [← hlast, List.getLast_eq_getElem]; congr 1; omega
    rw [this]
  · intro i hi
    have hc := hg.cellAt (i * 4 + 0) (by omega)
    rw [(ndCells_at d.g kvs h.len i hi).1] at hc
    exact hc
  · have hc := hg.cellAt (k * 4 + 3) (by omega)
    rw [(ndCells_at d.g kvs h.len k hk).2.2.2, hKA] at hc
    exact hc

set_option maxHeartbeats 1000000 in
set_option maxRecDepth 100000 in
theorem kid_err_walk (p gb N gc ob l oc k at_ q kc : Nat) (KA : Option Addr) (κ : Int) (mv : Value) (w : World) (a0 : w.cell? ⟨p, 0, none⟩ = some (.slice (some ⟨gb, 0, none⟩) N gc)) (a1 : w.cell? ⟨p, 1, none⟩ = some (.slice (some ⟨ob, 0, none⟩) (l + 1) oc))
    (c1 : w.cell? ⟨ob, l, none⟩ = some (.int .i64 k)) (ck : w.cell? ⟨gb, k * 4, none⟩ = some (.int .i64 2)) (ca : w.cell? ⟨gb, at_ * 4, none⟩ = some (.int .i64 κ)) (c3 : w.cell? ⟨gb, k * 4 + 3, none⟩ = some (.slice KA q kc))
    (hk : k < N) (ha : at_ < N) (hN : N ≤ 9223372036854775807) (hl : l + 1 ≤ 9223372036854775807) (hq9 : q ≤ 9223372036854775807) (hq : q % 2 = 0) (hκ : κ ≠ 0) :
    Calls Tryd.prog 56 #[.pointer (some ⟨p, 0, none⟩), .int .i64 at_] w fun e w' => e = .returned (.int .i64 5) ∧ Below w.heap.size w w' := by
  have hw := IntWalk.i64_in (l : Int) (by omega)
  have hq' : ((q : Int) % 2 == 0) = true := by simp; omega
  have hκ' : (κ != 0) = true := by simp [hκ]
  have h0 : ((l : Int) + 1 == 0) = false := by simp; omega
  clear hq hκ
  go_enter Tryd.func56, Tryd.ntmps56
  go_wp2_with fail
  go_quiet (fail)
  go_wp2_with fail
  go_ret
  exact ⟨rfl, by first | exact below_drewN' _ _ | exact Below.drew (Below.refl _ _)⟩

theorem grown_drewN {w w1 : World} {n : Nat} {row : Option Nat} (h : (w.drewN n).grownBy w1 row) : w.grownBy w1 row := World.grownBy.trans (grown_of_below (below_drewN' w n) row) h
set_option maxHeartbeats 1000000 in
set_option maxRecDepth 100000 in
theorem kid_ok_walk (B p gb N gc ob l oc k at_ q kc : Nat) (KA : Option Addr) (κ μ : Int) (xs : List Value) (w : World) (a0 : w.cell? ⟨p, 0, none⟩ = some (.slice (some ⟨gb, 0, none⟩) N gc)) (a1 : w.cell? ⟨p, 1, none⟩ = some (.slice (some ⟨ob, 0, none⟩) (l + 1) oc))
    (c1 : w.cell? ⟨ob, l, none⟩ = some (.int .i64 k)) (ck : w.cell? ⟨gb, k * 4, none⟩ = some (.int .i64 μ)) (ca : w.cell? ⟨gb, at_ * 4, none⟩ = some (.int .i64 κ)) (c3 : w.cell? ⟨gb, k * 4 + 3, none⟩ = some (.slice KA q kc)) (f3 : w.frozen? ⟨gb, k * 4 + 3, none⟩ = false)
    (hown : w.ownsRow B 3 1 (.slice KA q kc) q xs) (hgb : some gb ≠ (Value.slice KA q kc).ownBlock) (hwB : B ≤ w.heap.size)
    (hk : k < N) (ha : at_ < N) (hN : N ≤ 9223372036854775807) (hl : l + 1 ≤ 9223372036854775807) (hq9 : q ≤ 8796093022208) (hno : ¬ (μ = 2 ∧ q % 2 = 0 ∧ κ ≠ 0)) :
    Calls Tryd.prog 56 #[.pointer (some ⟨p, 0, none⟩), .int .i64 at_] w fun e w' => e = .returned (.int .i64 0) ∧
      ∃ g cap w1, w' = w1.setCell ⟨gb, k * 4 + 3, none⟩ (.slice (some ⟨g, 0, none⟩) (q + 1) cap) ∧ w1.ownsRow B 3 1 (.slice (some ⟨g, 0, none⟩) (q + 1) cap) (q + 1) (xs ++ [.int .i64 at_]) ∧ w.grownBy w1 (Value.slice KA q kc).ownBlock ∧ (some g = (Value.slice KA q kc).ownBlock ∨ w.heap.size ≤ g) := by
  have hw := IntWalk.i64_in (l : Int) (by omega)
  have h0 : ((l : Int) + 1 == 0) = false := by simp; omega
  have hgbl : gb < w.heap.size := World.block_lt_of_cell? w _ c3
  have HO := hid' hown
  have HGB := hid' hgb
  have HA : Hid (q + 1 ≤ maxLen) := by show _ ≤ _; unfold maxLen; omega
  have HA2 : Hid ((q + 1) * 8 ≤ 140737488355328) := by show _ ≤ _; omega
  clear hown hgb
  have hcase : (μ ≠ 2) ∨ (μ = 2 ∧ q % 2 ≠ 0) ∨ (μ = 2 ∧ q % 2 = 0 ∧ κ = 0) := by omega
  clear hno
  rcases hcase with hc | ⟨rfl, hc⟩ | ⟨rfl, hc, rfl⟩
  · have hc' : (μ == 2) = false := by simp [hc]
    clear hc
    go_enter Tryd.func56, Tryd.ntmps56
    go_wp2_with fail
    go_quiet (fail)
    go_wp2_with (at_builtin; refine append_at _ 55 3 (.int .i64 0) 1 8 Tryd.underlying55 info_int rfl (by decide) rfl _ _ rfl _ _ rfl (own_below HO.out (by first | exact below_drewN' _ _ | exact Below.drew (Below.refl _ _))) [.int .i64 at_] rfl rfl rfl HA.out HA2.out hwB ?_; intro g' cap' w1 hown1 hg1 hat1; have hg2 := grown_drewN hg1; have c4 := hg2.cell c3 HGB.out; have f4 : w1.frozen? ⟨gb, k * 4 + 3, none⟩ = false := (World.frozen?_of_block (w := w) (hg2.block gb hgbl HGB.out)).trans f3; have HG := hid' hg2; have HO1 := hid' hown1; have HAT := hid' hat1; clear hg1 hg2 hown1 hat1)
    go_ret
    exact ⟨rfl, g', cap', w1, rfl, HO1.out, HG.out, HAT.out⟩
  · have hc' : ((q : Int) % 2 == 0) = false := by simp; omega
    clear hc
    go_enter Tryd.func56, Tryd.ntmps56
    go_wp2_with fail
    go_quiet (fail)
    go_wp2_with (at_builtin; refine append_at _ 55 3 (.int .i64 0) 1 8 Tryd.underlying55 info_int rfl (by decide) rfl _ _ rfl _ _ rfl (own_below HO.out (by first | exact below_drewN' _ _ | exact Below.drew (Below.refl _ _))) [.int .i64 at_] rfl rfl rfl HA.out HA2.out hwB ?_; intro g' cap' w1 hown1 hg1 hat1; have hg2 := grown_drewN hg1; have c4 := hg2.cell c3 HGB.out; have f4 : w1.frozen? ⟨gb, k * 4 + 3, none⟩ = false := (World.frozen?_of_block (w := w) (hg2.block gb hgbl HGB.out)).trans f3; have HG := hid' hg2; have HO1 := hid' hown1; have HAT := hid' hat1; clear hg1 hg2 hown1 hat1)
    go_ret
    exact ⟨rfl, g', cap', w1, rfl, HO1.out, HG.out, HAT.out⟩
  · have hc' : ((q : Int) % 2 == 0) = true := by simp; omega
    clear hc
    go_enter Tryd.func56, Tryd.ntmps56
    go_wp2_with fail
    go_quiet (fail)
    go_wp2_with (at_builtin; refine append_at _ 55 3 (.int .i64 0) 1 8 Tryd.underlying55 info_int rfl (by decide) rfl _ _ rfl _ _ rfl (own_below HO.out (by first | exact below_drewN' _ _ | exact Below.drew (Below.refl _ _))) [.int .i64 at_] rfl rfl rfl HA.out HA2.out hwB ?_; intro g' cap' w1 hown1 hg1 hat1; have hg2 := grown_drewN hg1; have c4 := hg2.cell c3 HGB.out; have f4 : w1.frozen? ⟨gb, k * 4 + 3, none⟩ = false := (World.frozen?_of_block (w := w) (hg2.block gb hgbl HGB.out)).trans f3; have HG := hid' hg2; have HO1 := hid' hown1; have HAT := hid' hat1; clear hg1 hg2 hown1 hat1)
    go_ret
    exact ⟨rfl, g', cap', w1, rfl, HO1.out, HG.out, HAT.out⟩

theorem apart_own {a b : Value} (h : apartV a b) {g : Nat} (hb : b.ownBlock = some g) : some g ≠ a.ownBlock := by
  rcases h with h | h
  · rw [h]; simp
  · rw [← hb]; exact fun e => h e.symm
theorem pairwise_get {l : List Value} (h : l.Pairwise apartV) {i j : Nat} (hi : i < l.length) (hj : j < l.length) (hne : i ≠ j) : apartV l[i] l[j] := by
  rcases Nat.lt_or_gt_of_ne hne with hlt | hlt
  · exact List.pairwise_iff_getElem.1 h i j hi hj hlt
  · exact apartV_symm (List.pairwise_iff_getElem.1 h j i hj hi hlt)
theorem ndCells_set (g : List Nd) (kvs : List Value) (k : Nat) (kv : Value) (ks : List Int) (hl : kvs.length = g.length) (hk : k < g.length) :
    (ndCells g kvs).set (k * 4 + 3) kv = ndCells (g.modify k fun n => { n with kids := ks }) (kvs.set k kv) := by
  induction g generalizing kvs k with
  | nil => simp at hk
  | cons d g ih =>
    cases kvs with
    | nil => simp at hl
    | cons v r =>
      cases k with
      | zero => rfl
      | succ k =>
        have := ih r k (by simpa using hl) (by simpa using hk)
        rw [show (k + 1) * 4 + 3 = k * 4 + 3 + 1 + 1 + 1 + 1 from by omega]
        simp only [ndCells, List.set_cons_succ, List.modify_succ_cons, this]
theorem addKid_len (g : List Nd) (o : Nat) (a : Int) : (addKid g o a).length = g.length := by simp [addKid]
theorem addKid_at (g : List Nd) (o : Nat) (a : Int) (i : Nat) (hi : i < g.length) : (addKid g o a)[i]'(by rw [addKid_len]; exact hi) = if o = i then { g[i] with kids := g[i].kids ++ [a] } else g[i] := by
  simp [addKid, List.getElem_modify]
end Go.Proofs.YthkkcbfemmpfmaaDoor
