import Derived.Test.YthkkcbfemmpfmaaDoorKeys
import Derived.RegionTactic
import Derived.BigRegion
set_option linter.unusedSimpArgs false
set_option linter.unusedVariables false
namespace Go.Proofs.YthkkcbfemmpfmaaDoor
open Go.RowKit Go.Lib

/-! ### graphs that are read -/
structure Nd where
  kind : Int
  tag : ByteArray
  text : ByteArray
  kids : List Int
def ndCells : List Nd → List Value → List Value
  | d :: g, kv :: r => .int .i64 d.kind :: .string d.tag :: .string d.text :: kv :: ndCells g r
  | _, _ => []
theorem ndCells_len : ∀ (g : List Nd) (kvs : List Value), kvs.length = g.length → (ndCells g kvs).length = g.length * 4
  | [], [], _ => rfl
  | [], _ :: _, h => by simp at h
  | _ :: _, [], h => by simp at h
  | d :: g, kv :: r, h => by
    have := ndCells_len g r (by simpa using h)
    simp only [ndCells, List.length_cons, this]; omega
theorem ndCells_at : ∀ (g : List Nd) (kvs : List Value) (hl : kvs.length = g.length) (k : Nat) (hk : k < g.length),
    (ndCells g kvs)[k * 4 + 0]? = some (.int .i64 g[k].kind) ∧ (ndCells g kvs)[k * 4 + 1]? = some (.string g[k].tag) ∧ (ndCells g kvs)[k * 4 + 2]? = some (.string g[k].text) ∧ (ndCells g kvs)[k * 4 + 3]? = some (kvs[k]'(by omega))
  | [], _, _, k, hk => by simp at hk
  | _ :: _, [], h, _, _ => by simp at h
  | d :: g, kv :: r, h, k, hk => by
    cases k with
    | zero => exact ⟨rfl, rfl, rfl, rfl⟩
    | succ k =>
      have ih := ndCells_at g r (by simpa using h) k (by simpa using hk)
      have e : ∀ j, (ndCells (d :: g) (kv :: r))[(k + 1) * 4 + j]? = (ndCells g r)[k * 4 + j]? := by
        intro j
        rw [show (k + 1) * 4 + j = k * 4 + j + 1 + 1 + 1 + 1 from by omega]
        simp only [ndCells, List.getElem?_cons_succ]
      rw [e, e, e, e]
      exact ih
def RKid (w : World) (kv : Value) (ks : List Int) : Prop := ∃ A n c, kv = .slice A n c ∧ RRow w 1 A n (intCells ks) ∧ n ≤ 17592186044414
theorem RKid.below {w w' : World} {kv : Value} {ks : List Int} (h : RKid w kv ks) (hb : Below w.heap.size w w') : RKid w' kv ks := by
  obtain ⟨A, n, c, h1, h2, h3⟩ := h; exact ⟨A, n, c, h1, h2.below hb, h3⟩
structure RG (w : World) (A : Option Addr) (n : Nat) (g : List Nd) (kvs : List Value) : Prop where
  row : RRow w 4 A n (ndCells g kvs)
  len : kvs.length = g.length
  kid : ∀ i (h : i < g.length) kv, kvs[i]? = some kv → RKid w kv g[i].kids
  max : n ≤ 2199023255488
theorem RG.n {w : World} {A : Option Addr} {n : Nat} {g : List Nd} {kvs : List Value} (h : RG w A n g kvs) : g.length = n := by
  have := h.row.len; rw [ndCells_len _ _ h.len] at this; omega
theorem RG.below {w w' : World} {A : Option Addr} {n : Nat} {g : List Nd} {kvs : List Value} (h : RG w A n g kvs) (hb : Below w.heap.size w w') : RG w' A n g kvs :=
  ⟨h.row.below hb, h.len, fun i hi kv hk => (h.kid i hi kv hk).below hb, h.max⟩
theorem RG.at_ {w : World} {A : Option Addr} {n : Nat} {g : List Nd} {kvs : List Value} (h : RG w A n g kvs) (k : Nat) (hk : k < g.length) : ∃ b off B m c, A = some ⟨b, off, none⟩ ∧
    w.cell? ⟨b, off + k * 4, none⟩ = some (.int .i64 g[k].kind) ∧ w.cell? ⟨b, off + k * 4 + 1, none⟩ = some (.string g[k].tag) ∧ w.cell? ⟨b, off + k * 4 + 2, none⟩ = some (.string g[k].text) ∧
    w.cell? ⟨b, off + k * 4 + 3, none⟩ = some (.slice B m c) ∧ RRow w 1 B m (intCells g[k].kids) ∧ m ≤ 17592186044414 := by
  have hn := h.n
  have hkl : k < kvs.length := by rw [h.len]; exact hk
  obtain ⟨b, off, rfl, hc⟩ := h.row.cell (by omega)
  obtain ⟨c0, c1, c2, c3⟩ := ndCells_at g kvs h.len k hk
  obtain ⟨B, m, c, hkv, hr, hm⟩ := h.kid k hk kvs[k] (by simp [hkl])
  refine ⟨b, off, B, m, c, rfl, hc (k * 4 + 0) _ c0, ?_, ?_, ?_, hr, hm⟩
  · rw [Nat.add_assoc]; exact hc (k * 4 + 1) _ c1
  · rw [Nat.add_assoc]; exact hc (k * 4 + 2) _ c2
  · rw [Nat.add_assoc]; rw [hkv] at c3; exact hc (k * 4 + 3) _ c3

theorem RG.at4 {w : World} {b off n : Nat} {g : List Nd} {kvs : List Value} (h : RG w (some ⟨b, off, none⟩) n g kvs) (k : Nat) (hk : k < g.length) : ∃ B m c,
    w.cell? ⟨b, off + k * 4, none⟩ = some (.int .i64 g[k].kind) ∧ w.cell? ⟨b, off + k * 4 + 1, none⟩ = some (.string g[k].tag) ∧ w.cell? ⟨b, off + k * 4 + 2, none⟩ = some (.string g[k].text) ∧
    w.cell? ⟨b, off + k * 4 + 3, none⟩ = some (.slice B m c) := by
  obtain ⟨b', off', B, m, c, hA, h0, h1, h2, h3, _⟩ := h.at_ k hk
  simp only [Option.some.injEq, Addr.mk.injEq, and_true] at hA
  obtain ⟨rfl, rfl⟩ := hA
  exact ⟨B, m, c, h0, h1, h2, h3⟩
def hasB (g : List Nd) (k : Int) : Bool := decide (0 ≤ k) && decide (k < g.length)
theorem has_any (A : Option Addr) (n c : Nat) (k : Int) (w : World) :
    Calls Tryd.prog 73 #[.slice A n c, .int .i64 k] w fun e w' => e = .returned (.bool (decide (0 ≤ k) && decide (k < n))) ∧ w = w' := by
  go_enter Tryd.func73, Tryd.ntmps73
  go_wp2
  all_goals go_ret
  all_goals exact ⟨ret_bool (by simp <;> omega), rfl⟩

theorem RRow.only {w w1 : World} {sz : Nat} {A : Option Addr} {n m : Nat} {cs : List Value} (h : RRow w sz A n cs) (ho : Only m w w1) {arr : Array MapEntry} {c : Nat} (hm : w.heap[m]? = some (.map arr c)) : RRow w1 sz A n cs :=
  ⟨h.len, h.max, fun hn => by
    obtain ⟨b, off, rfl, hc⟩ := h.cell hn
    refine ⟨b, off, rfl, fun j u hu => ?_⟩
    have h1 := hc j u hu
    have hne : b ≠ m := by
      rintro rfl
      simp [World.cell?, hm] at h1
    rw [ho.cell _ hne]; exact h1⟩
theorem RRow.onlyM {α : Type} {w w1 : World} {sz : Nat} {A : Option Addr} {n m : Nat} {cs : List Value} {enc : α → Value} {f : α → Option Int} (h : RRow w sz A n cs) (ho : Only m w w1) (hm : MapIs w m enc f) : RRow w1 sz A n cs := by
  obtain ⟨arr, c, hm⟩ := hm; exact h.only ho hm.heap
def ones {α : Type} (f : α → Option Int) : Prop := ∀ a n, f a = some n → n = 1
theorem ones_getD {α : Type} {f : α → Option Int} (h : ones f) (a : α) : (f a).getD 0 = 0 ∨ (f a).getD 0 = 1 := by
  cases hf : f a with
  | none => exact .inl rfl
  | some n => exact .inr (h a n hf)
theorem ones_put {α : Type} [DecidableEq α] {f : α → Option Int} (h : ones f) (a : α) : ones (put f a 1) := by
  intro b n hb
  simp only [put] at hb
  split at hb
  · cases hb; rfl
  · exact h b n hb
theorem below1 (w : World) (o1 : Obj) : Below w.heap.size w (w.alloc o1) := (Below.refl _ _).alloc (Nat.le_refl _) _
theorem below2 (w : World) (o1 o2 : Obj) : Below w.heap.size w ((w.alloc o1).alloc o2) := (below1 w o1).alloc (below1 w o1).size _
theorem below3 (w : World) (o1 o2 o3 : Obj) : Below w.heap.size w (((w.alloc o1).alloc o2).alloc o3) := (below2 w o1 o2).alloc (below2 w o1 o2).size _
/-! ### arena.Twice -/
def twK (g : List Nd) : List Int → (Int → Option Int) → (ByteArray × ByteArray → Option Int) → Bool
  | [], _, _ => false
  | k :: r, fN, fL =>
    if h : 0 ≤ k ∧ k.toNat < g.length then
      (if (fN k).getD 0 + 1 > 1 then true
       else if g[k.toNat].kind = 0 then
         (if (fL (g[k.toNat].tag, g[k.toNat].text)).getD 0 + 1 > 1 then true else twK g r (put fN k ((fN k).getD 0 + 1)) (put fL (g[k.toNat].tag, g[k.toNat].text) ((fL (g[k.toNat].tag, g[k.toNat].text)).getD 0 + 1)))
       else twK g r (put fN k ((fN k).getD 0 + 1)) fL)
    else twK g r fN fL
def twNode (g : List Nd) (d : Nd) : Bool := decide (d.kind = 2) && twK g (keysOf d.kids) (fun _ => none) (fun _ => none)
def twiceB (g : List Nd) : Bool := g.any (twNode g)

set_option maxHeartbeats 1000000 in
set_option maxRecDepth 100000 in
theorem twice_any (A : Option Addr) (n c : Nat) (g : List Nd) (kvs : List Value) (w : World) (h : RG w A n g kvs) :
    Calls Tryd.prog 41 #[.slice A n c] w fun e w' => e = .returned (.bool (twiceB g)) ∧ Below w.heap.size w w' := by
  have hn := h.n
  have hmx := h.max
  have HN := hid' hn
  have HG := hid' h
  clear hn h
  go_enter Tryd.func41, Tryd.ntmps41
  go_wp2_with fail
  go_loopw [12] (fun i wr => ∃ k : Nat, k ≤ n ∧ i = .int .i64 k ∧ Hid (twiceB g = (g.drop k).any (twNode g)) ∧ Below w.heap.size w wr) (fun i _ => n - (intOf i).toNat)
  case atStart => exact ⟨0, Nat.zero_le _, rfl, rfl, Below.refl _ _⟩
  case round =>
    obtain ⟨k, hk, rfl, ht, hB⟩ := hrel
    by_cases hlt : k < n
    · have hk' : k < g.length := by rw [HN.out]; exact hlt
      obtain ⟨b, off, B, m, c', rfl, h0, h1, h2, h3, hr, hm⟩ := (HG.out.below hB).at_ k hk'
      have hd : g.drop k = g[k] :: g.drop (k + 1) := List.drop_eq_getElem_cons hk'
      have ht' : Hid (twiceB g = (twNode g g[k] || (g.drop (k + 1)).any (twNode g))) := by show _ = _; rw [ht.out, hd, List.any_cons]
      generalize g[k] = e at h0 h1 h2 h3 hr ht'
      obtain ⟨κ, a, x, ks⟩ := e
      simp only at h0 h1 h2 h3 hr ht'
      clear hd ht
      by_cases h2k : κ = 2
      · subst h2k
        have HR := hid' hr
        have hmm := @run_makeMap Tryd.prog
        clear hr
        go_wp2_with (go_at_call 76; refine (keys_any _ _ _ _ _ _ ks _ (HR.out.below (below3 _ _ _ _)) hm).mono ?_; rintro e w' ⟨A', c1, rfl, hR1, hb⟩)
        have hM1 : MapIs w' (wr.heap.size + 1) (fun n : Int => Value.int .i64 n) (fun _ => none) := by
          have h9 := (MapIs.new (wr.alloc (.cells #[.int .i64 2, .string a, .string x, .slice B m c'] 57)) (fun n : Int => Value.int .i64 n)).below (below1 _ (.map #[] 0))
          simp only [World.size_alloc] at h9
          exact h9.below hb
        have hM2 : MapIs w' (wr.heap.size + 1 + 1) leafV (fun _ => none) := by
          have h9 := MapIs.new ((wr.alloc (.cells #[.int .i64 2, .string a, .string x, .slice B m c'] 57)).alloc (.map #[] 0)) leafV
          simp only [World.size_alloc] at h9
          exact h9.below hb
        have hB' : Below w.heap.size w w' := (hB.trans ((below3 wr _ _ _).mono hB.size)).trans (hb.mono (hB.trans ((below3 wr _ _ _).mono hB.size)).size)
        have hsz : w.heap.size ≤ wr.heap.size := hB.size
        have hkl : (keysOf ks).length ≤ m := by have h8 := keysOf_le ks; have h9 := HR.out.len; rw [intCells_len] at h9; omega
        obtain ⟨m1, hm1⟩ : ∃ m1, m1 = wr.heap.size + 1 := ⟨_, rfl⟩
        obtain ⟨m2, hm2⟩ : ∃ m2, m2 = wr.heap.size + 1 + 1 := ⟨_, rfl⟩
        rw [← hm1] at hM1
        rw [← hm2] at hM2
        have hne : m1 ≠ m2 := by omega
        have hm1w : w.heap.size ≤ m1 := by omega
        have hm2w : w.heap.size ≤ m2 := by omega
        rw [← hm2, ← hm1]
        have ht2 : Hid (twiceB g = (twK g (keysOf ks) (fun _ => none) (fun _ => none) || (g.drop (k + 1)).any (twNode g))) := by show _ = _; rw [ht'.out]; simp [twNode]
        clear ht' hm1 hm2 h0 h1 h2 h3 hb hB
        go_loopw [24] (fun i wq => ∃ (j : Nat) (fN : Int → Option Int) (fL : ByteArray × ByteArray → Option Int), j ≤ (keysOf ks).length ∧ i = .int .i64 j ∧ Hid (twK g (keysOf ks) (fun _ => none) (fun _ => none) = twK g ((keysOf ks).drop j) fN fL) ∧
          MapIs wq m1 (fun n : Int => Value.int .i64 n) fN ∧ MapIs wq m2 leafV fL ∧ Hid (ones fN ∧ ones fL) ∧ RRow wq 1 A' (keysOf ks).length (intCells (keysOf ks)) ∧ Below w.heap.size w wq) (fun i _ => (keysOf ks).length - (intOf i).toNat)
        case atStart => exact ⟨0, _, _, Nat.zero_le _, rfl, rfl, hM1, hM2, ⟨by intro a n h; simp at h, by intro a n h; simp at h⟩, hR1, hB'⟩
        case round =>
          obtain ⟨j, fN, fL, hj, rfl, hw, hN, hL, hone, hRk, hBq⟩ := hrel
          clear hM1 hM2 hR1 hB'
          by_cases hjl : j < (keysOf ks).length
          · have hdk : (keysOf ks).drop j = (keysOf ks)[j] :: (keysOf ks).drop (j + 1) := List.drop_eq_getElem_cons hjl
            obtain ⟨b2, o2, rfl, hc2⟩ := hRk.cell (by omega)
            have hcj := hc2 j _ (intCells_at _ j hjl)
            generalize (keysOf ks)[j] = y at hcj hdk
            have hw' : Hid (twK g (keysOf ks) (fun _ => none) (fun _ => none) = twK g (y :: (keysOf ks).drop (j + 1)) fN fL) := by rw [← hdk]; exact hw.out
            clear hw hdk hc2
            by_cases hin : 0 ≤ y ∧ y < n
            · obtain ⟨i1, i2⟩ := hin
              have hk2 : y.toNat < g.length := by rw [HN.out]; omega
              have hyn : Hid (0 ≤ y ∧ y.toNat < g.length) := ⟨i1, hk2⟩
              have l1 := (map_lookup keyInt Tryd.underlying102 hN y).1
              rcases ones_getD hone.out.1 y with hc | hc
              · have hw2 : Hid (twK g (keysOf ks) (fun _ => none) (fun _ => none) = if g[y.toNat].kind = 0 then
                    (if (fL (g[y.toNat].tag, g[y.toNat].text)).getD 0 + 1 > 1 then true else twK g ((keysOf ks).drop (j + 1)) (put fN y 1) (put fL (g[y.toNat].tag, g[y.toNat].text) ((fL (g[y.toNat].tag, g[y.toNat].text)).getD 0 + 1)))
                    else twK g ((keysOf ks).drop (j + 1)) (put fN y 1) fL) := by
                  show _ = _; rw [hw'.out, twK, dif_pos hyn.out, hc]; simp
                rw [hc] at l1
                obtain ⟨w1, hu, hN1, ho1⟩ := map_update keyInt Tryd.underlying102 hN y 1
                have l2 := (map_lookup keyInt Tryd.underlying102 hN1 y).1
                simp only [put, if_true, Option.getD_some] at l2
                have hB1 := hBq.trans (ho1.below hm1w)
                have hRk1 := hRk.onlyM ho1 hN
                have hL1 := hL.kept (ho1.block m2 hne.symm)
                obtain ⟨B2, q2, c2, n0, n1, n2, n3⟩ := (HG.out.below hB1).at4 y.toNat hk2
                generalize g[y.toNat] = e2 at n0 n1 n2 n3 hw2
                obtain ⟨κ2, a2, x2, ks2⟩ := e2
                simp only at n0 n1 n2 n3 hw2
                clear hw' hk2
                have HN1 := hid' hN1
                have HL1 := hid' hL1
                have HRK := hid' hRk1
                clear hN1 hL1 hRk1 hRk hN hL hc
                by_cases hk0 : κ2 = 0
                · subst hk0
                  have hbd : Below w1.heap.size w1 (w1.alloc (.cells #[.int .i64 0, .string a2, .string x2, .slice B2 q2 c2] 57)).drew := (below1 w1 _).drew
                  have hw3 : Hid (twK g (keysOf ks) (fun _ => none) (fun _ => none) = if (fL (a2, x2)).getD 0 + 1 > 1 then true else twK g ((keysOf ks).drop (j + 1)) (put fN y 1) (put fL (a2, x2) ((fL (a2, x2)).getD 0 + 1))) := by
                    show _ = _; rw [hw2.out, if_pos rfl]
                  clear hw2
                  have hLd := HL1.out.below hbd
                  have l3 := (map_lookup keyLeaf Tryd.underlying103 hLd (a2, x2)).1
                  obtain ⟨v0, stamp, w2, e1, ho2, l5, e2⟩ := map_entry keyLeaf Tryd.underlying103 hLd (a2, x2)
                  have hK9 : Blk (w1.alloc (.cells #[.int .i64 0, .string a2, .string x2, .slice B2 q2 c2] 57)).drew w1.heap.size [.int .i64 0, .string a2, .string x2, .slice B2 q2 c2] 57 := Blk.new w1 _ _
                  have hm2lt : m2 < w1.heap.size := HL1.out.lt
                  rcases ones_getD hone.out.2 (a2, x2) with hd | hd
                  · rw [hd] at l3 l5
                    simp only [leafV] at l3 e1 l5
                    obtain ⟨w3, e3, hL3, ho3⟩ := e2 1
                    have l4 := (map_lookup keyLeaf Tryd.underlying103 hL3 (a2, x2)).1
                    simp only [put, if_true, Option.getD_some, leafV] at l4
                    have hK3 : Blk w3 w1.heap.size [.int .i64 0, .string a2, .string x2, .slice B2 q2 c2] 57 := (ho3.block w1.heap.size (by omega)).trans hK9
                    have k1 := hK3.cell (j := 1) rfl
                    have k2 := hK3.cell (j := 2) rfl
                    have hf3 : Hid (twK g (keysOf ks) (fun _ => none) (fun _ => none) = twK g ((keysOf ks).drop (j + 1)) (put fN y 1) (put fL (a2, x2) 1)) := by show _ = _; rw [hw3.out, hd]; rfl
                    have HL3 := hid' hL3
                    have HB3 : Hid (Below w.heap.size w w3) := hid' ((hB1.trans (hbd.mono hB1.size)).trans (ho3.below hm2w))
                    have HRK3 := hid' ((HRK.out.below hbd).onlyM ho3 hLd)
                    have HN3 := hid' ((HN1.out.below hbd).kept (ho3.block m1 hne))
                    clear hw3 hL3 hLd hd hK9 hK3 e2
                    go_wp2_with (go_at_call 73; refine (has_any _ _ _ _ _).mono ?_; rintro e w' ⟨rfl, rfl⟩)
                    go_region
                    go_wp2_with fail
                    go_roundw
                    case rel => exact ⟨j + 1, put fN y 1, put fL (a2, x2) 1, by omega, by go_num, hf3.out, HN3.out, HL3.out, ⟨ones_put hone.out.1 y, ones_put hone.out.2 _⟩, HRK3.out, HB3.out⟩
                    case measure => simp [intOf]; omega
                  · rw [hd] at l3 l5
                    simp only [leafV] at l3 e1 l5
                    obtain ⟨w3, e3, hL3, ho3⟩ := e2 2
                    have l4 := (map_lookup keyLeaf Tryd.underlying103 hL3 (a2, x2)).1
                    simp only [put, if_true, Option.getD_some, leafV] at l4
                    have hK3 : Blk w3 w1.heap.size [.int .i64 0, .string a2, .string x2, .slice B2 q2 c2] 57 := (ho3.block w1.heap.size (by omega)).trans hK9
                    have k1 := hK3.cell (j := 1) rfl
                    have k2 := hK3.cell (j := 2) rfl
                    have hf3 : Hid (twiceB g = true) := by show _ = _; rw [ht2.out, hw3.out, hd]; rfl
                    have HB3 : Hid (Below w.heap.size w w3) := hid' ((hB1.trans (hbd.mono hB1.size)).trans (ho3.below hm2w))
                    clear hw3 hL3 hLd hd hK9 hK3 e2
                    go_wp2_with (go_at_call 73; refine (has_any _ _ _ _ _).mono ?_; rintro e w' ⟨rfl, rfl⟩)
                    go_region
                    go_wp2_with fail
                    go_ret
                    exact ⟨by rw [hf3.out]; rfl, HB3.out⟩
                · have hk0' : (κ2 == 0) = false := by simp [hk0]
                  go_wp2_with (go_at_call 73; refine (has_any _ _ _ _ _).mono ?_; rintro e w' ⟨rfl, rfl⟩)
                  go_roundw
                  case rel => exact ⟨j + 1, put fN y 1, fL, by omega, by go_num, (by show _ = _; rw [hw2.out]; simp [hk0]), HN1.out.below (below1 _ _), HL1.out.below (below1 _ _), ⟨ones_put hone.out.1 y, hone.out.2⟩, HRK.out.below (below1 _ _), hB1.alloc hB1.size _⟩
                  case measure => simp [intOf]; omega
              · have hf3 : Hid (twiceB g = true) := by show _ = _; rw [ht2.out, hw'.out, twK, dif_pos hyn.out, hc]; rfl
                rw [hc] at l1
                obtain ⟨w1, hu, hN1, ho1⟩ := map_update keyInt Tryd.underlying102 hN y 2
                have l2 := (map_lookup keyInt Tryd.underlying102 hN1 y).1
                simp only [put, if_true, Option.getD_some] at l2
                have hB1 := hBq.trans (ho1.below hm1w)
                clear hw' hN hL hc hN1
                go_wp2_with (go_at_call 73; refine (has_any _ _ _ _ _).mono ?_; rintro e w' ⟨rfl, rfl⟩)
                go_ret
                exact ⟨by rw [hf3.out]; rfl, hB1⟩
            · have hw2 : Hid (twK g (keysOf ks) (fun _ => none) (fun _ => none) = twK g ((keysOf ks).drop (j + 1)) fN fL) := by
                show _ = _; rw [hw'.out, twK, dif_neg]; rw [HN.out]; omega
              clear hw'
              have hin2 : (decide (0 ≤ y) && decide (y < (n : Int))) = false := by rw [Bool.and_eq_false_iff, decide_eq_false_iff_not, decide_eq_false_iff_not]; omega
              have HNq := hid' hN
              have HLq := hid' hL
              have HRq := hid' hRk
              clear hN hL hRk
              go_wp2_with (go_at_call 73; refine (has_any _ _ _ _ _).mono ?_; rintro e w' ⟨rfl, rfl⟩)
              go_roundw
              case rel => exact ⟨j + 1, fN, fL, by omega, by go_num, hw2.out, HNq.out, HLq.out, hone, HRq.out, hBq⟩
              case measure => simp [intOf]; omega
          · have hw2 : Hid (twiceB g = (g.drop (k + 1)).any (twNode g)) := by
              have h9 := hw.out; rw [List.drop_of_length_le (by omega), twK] at h9
              show _ = _; rw [ht2.out, h9, Bool.false_or]
            clear hw ht2 hN hL hRk
            go_wp2_with fail
            go_roundw
            case rel => exact ⟨k + 1, by omega, by go_num, hw2, hBq⟩
            case measure => simp [intOf]; omega
      · have hk2 : (κ != 2) = true := by simp [h2k]
        have hf : Hid (twiceB g = (g.drop (k + 1)).any (twNode g)) := by show _ = _; rw [ht'.out]; simp [twNode, h2k]
        clear ht'
        go_wp2_with fail
        go_roundw
        case rel => exact ⟨k + 1, by omega, by go_num, hf, hB.alloc hB.size _⟩
        case measure => simp [intOf]; omega
    · have hf : Hid (twiceB g = false) := by
        have := ht.out; rw [List.drop_of_length_le (by rw [HN.out]; omega)] at this; exact this
      clear ht
      go_wp2_with fail
      go_ret
      exact ⟨by rw [hf.out]; rfl, hB⟩
end Go.Proofs.YthkkcbfemmpfmaaDoor
