import Derived.Test.YthkkcbfemmpfmaaDoorDocTake
set_option linter.unusedSimpArgs false
set_option linter.unusedVariables false
namespace Go.Proofs.YthkkcbfemmpfmaaDoor
open Go.RowKit Go.Lib

/-! ### graphs that are done -/
def OG (b : Nat) (w : World) (gv : Value) (g : List Nd) : Prop :=
  ∃ kvs : List Value, w.ownsRow b 57 4 gv g.length (ndCells g kvs) ∧ kvs.length = g.length ∧ (∀ i (h : i < g.length) kv, kvs[i]? = some kv → w.ownsRow b 3 1 kv g[i].kids.length (intCells g[i].kids)) ∧
    g.length ≤ 2000 ∧ ∀ i (h : i < g.length), g[i].kids.length ≤ 8796093022208
theorem KeepP.grown {B p : Nat} {w w' : World} (h : KeepP B p w w') (hB : w.heap.size ≤ B) : w.grownBy w' (some p) := ⟨h.os, h.tape, h.output, h.size, fun i hi hp => h.block i (by omega) (fun e => hp (by rw [e]))⟩
theorem own_ne_base {w : World} {base : Nat} {e : TypeId} {size n : Nat} {v : Value} {xs : List Value} (h : w.ownsRow base e size v n xs) {p : Nat} (hp : p < base) : v.ownBlock = none ∨ v.ownBlock ≠ some p := by
  cases hb : v.ownBlock with
  | none => exact .inl rfl
  | some g =>
    have := own_base h g hb
    refine .inr fun e => ?_
    simp only [Option.some.injEq] at e
    omega
theorem OG.grown {b : Nat} {w w' : World} {gv : Value} {g : List Nd} {row : Option Nat} (h : OG b w gv g) (hg : w.grownBy w' row) (ha : ∀ {e : TypeId} {sz n : Nat} {v : Value} {xs : List Value}, (e = 57 ∨ e = 3) → w.ownsRow b e sz v n xs → v.ownBlock = none ∨ v.ownBlock ≠ row) : OG b w' gv g := by
  obtain ⟨kvs, h1, h2, h3, h4, h5⟩ := h
  exact ⟨kvs, h1.kept hg (ha (.inl rfl) h1), h2, fun i hi kv hk => (h3 i hi kv hk).kept hg (ha (.inr rfl) (h3 i hi kv hk)), h4, h5⟩
theorem OG.of_doc {B b : Nat} {w : World} {p : Nat} {d : DocM} {gv ov : Value} {m : Nat} {kvs : List Value} (h : DocRep B w p d gv ov m kvs) {n : Nat} (hok : DocOK d n) (hn : n ≤ 8796093022208) (hb : b ≤ B) : OG b w gv d.g :=
  ⟨kvs, own_weaken h.graph hb, h.len, fun i hi kv hk => own_weaken (h.kid i hi kv hk) hb, hok.g, fun i hi => by have := hok.kids i hi; omega⟩
def OUT (b : Nat) (w : World) (ov : Value) (gs : List (List Nd)) : Prop :=
  ∃ gvs : List Value, w.ownsRow b 48 1 ov gs.length gvs ∧ gvs.length = gs.length ∧ ∀ i (h : i < gs.length) v, gvs[i]? = some v → OG b w v gs[i]
theorem OUT.keep {B p : Nat} {w w' : World} {ov : Value} {gs : List (List Nd)} (h : OUT (p + 1) w ov gs) (hk : KeepP B p w w') (hB : w.heap.size ≤ B) : OUT (p + 1) w' ov gs := by
  obtain ⟨gvs, h1, h2, h3⟩ := h
  have hg := hk.grown hB
  exact ⟨gvs, h1.kept hg (own_ne_base h1 (by omega)), h2, fun i hi v hv => (h3 i hi v hv).grown hg (fun _ h => own_ne_base h (by omega))⟩
theorem OUT.below {b : Nat} {w w' : World} {ov : Value} {gs : List (List Nd)} (h : OUT b w ov gs) (hb : Below w.heap.size w w') : OUT b w' ov gs := by
  obtain ⟨gvs, h1, h2, h3⟩ := h
  have hg := grown_of_below hb none
  have hn : ∀ {e : TypeId} {sz n : Nat} {v : Value} {xs : List Value}, w.ownsRow b e sz v n xs → v.ownBlock = none ∨ v.ownBlock ≠ none := fun {_ _ _ v _} _ => by cases v.ownBlock <;> simp
  exact ⟨gvs, h1.kept hg (hn h1), h2, fun i hi v hv => (h3 i hi v hv).grown hg (fun _ h => hn h)⟩
theorem OUT.push {b : Nat} {w w1 : World} {ov gv nv : Value} {gs : List (List Nd)} {g : List Nd} {gvs : List Value} (h1 : w.ownsRow b 48 1 ov gs.length gvs) (h2 : gvs.length = gs.length) (h3 : ∀ i (h : i < gs.length) v, gvs[i]? = some v → OG b w v gs[i])
    (hG : OG b w gv g) (ho : w1.ownsRow b 48 1 nv (gs.length + 1) (gvs ++ [gv])) (hg : w.grownBy w1 ov.ownBlock) : OUT b w1 nv (gs ++ [g]) := by
  have ha : ∀ {e : TypeId} {sz n : Nat} {v : Value} {xs : List Value}, (e = 57 ∨ e = 3) → w.ownsRow b e sz v n xs → v.ownBlock = none ∨ v.ownBlock ≠ ov.ownBlock := by
    intro e sz n v xs he hv
    rcases he with rfl | rfl
    · exact own_type_ne hv h1 (by decide)
    · exact own_type_ne hv h1 (by decide)
  refine ⟨gvs ++ [gv], by rw [List.length_append]; exact ho, by simp [h2], fun i hi v hv => ?_⟩
  by_cases e : i < gs.length
  · rw [List.getElem?_append_left (by omega)] at hv
    simp only [List.getElem_append_left e]
    exact (h3 i e v hv).grown hg ha
  · have hi' : i = gs.length := by simp at hi; omega
    subst hi'
    rw [List.getElem?_append_right (by omega), h2, Nat.sub_self] at hv
    simp only [List.getElem?_cons_zero, Option.some.injEq] at hv
    subst hv
    simp only [List.getElem_append_right (Nat.le_refl _), Nat.sub_self, List.getElem_cons_zero]
    exact hG.grown hg ha

/-! ### the run -/
def nestOK : List (Int × Int) → Prop
  | [] => True
  | x :: r => if r = [] then x.1 = 0 else (x.1 = 2 ∨ x.1 = 4) ∧ nestOK r
theorem nestOK_top {x : Int × Int} {r : List (Int × Int)} (h : nestOK (x :: r)) (c : Int) : nestOK ((x.1, c) :: r) := by
  unfold nestOK at h ⊢; exact h
theorem nestOK_push {r : List (Int × Int)} (h : nestOK r) (hr : r ≠ []) (k : Int) (hk : k = 2 ∨ k = 4) : nestOK ((k, 0) :: r) := by
  unfold nestOK; rw [if_neg hr]; exact ⟨hk, h⟩
theorem kindOf_coll (k : Int) : (kindOf k = 0) = (isColl k = false) := by
  unfold kindOf isColl
  by_cases h2 : k = 2
  · simp [h2]
  · by_cases h4 : k = 4
    · simp [h4]
    · simp [h2, h4]
theorem nodeM_op {d : DocM} {e : Ev} (h : (nodeM d e).2 = 0) : (nodeM d e).1.op.length = if isColl e.kind then d.op.length + 1 else d.op.length := by
  unfold nodeM at h ⊢
  split
  · rename_i h1; rw [if_pos h1] at h; simp at h
  · rename_i h1
    rw [if_neg h1] at h
    split
    · rename_i h2; rw [if_pos h2] at h; exact absurd h h2
    · simp only [kindOf_coll]
      cases isColl e.kind
      · simp [kidM_op, newNode]
      · simp [kidM_op, newNode]

structure GSt (p : Nat) (w : World) (k : Nat) (st : List (Int × Int)) (d : DocM) (gs : List (List Nd)) (ov : Value) : Prop where
  shape : nestOK st
  ok : DocOK d k
  cnt : gs.length ≤ k
  now : (st = [] ∧ (∃ x y z, Blk w p [x, y, z] 64) ∧ OUT (p + 1) w ov gs) ∨
    (∃ (wB : World) (gv op : Value) (m : Nat) (kvs : List Value), st ≠ [] ∧ OUT (p + 1) wB ov gs ∧ KeepP wB.heap.size p wB w ∧ DocRep wB.heap.size w p d gv op m kvs ∧ d.op.length + 1 = st.length)
theorem GSt.below {p : Nat} {w w' : World} {k : Nat} {st : List (Int × Int)} {d : DocM} {gs : List (List Nd)} {ov : Value} (h : GSt p w k st d gs ov) (hb : Below w.heap.size w w') : GSt p w' k st d gs ov := by
  refine ⟨h.shape, h.ok, h.cnt, ?_⟩
  rcases h.now with ⟨h1, ⟨x, y, z, h2⟩, h3⟩ | ⟨wB, gv, op, m, kvs, h1, h2, h3, h4, h5⟩
  · exact .inl ⟨h1, ⟨x, y, z, h2.below hb⟩, h3.below hb⟩
  · exact .inr ⟨wB, gv, op, m, kvs, h1, h2, h3.below hb h4.wB, h4.below hb, h5⟩
theorem KeepP.belowP {B p : Nat} {w w' : World} (h : KeepP B p w w') (hp : p < B) : Below p w w' := ⟨h.os, h.tape, h.output, h.size, fun k hk => h.block k (by omega) (by omega)⟩
theorem DocOK.up {d : DocM} {n : Nat} (h : DocOK d n) : DocOK d (n + 1) := ⟨fun i hi => by have := h.kids i hi; omega, by have := h.op; omega, h.g⟩

/-- one event, as Graphs hands it on -/
theorem take_step {p : Nat} {w : World} {k : Nat} {st : List (Int × Int)} {d : DocM} {gs : List (List Nd)} {ov : Value} (h : GSt p w k st d gs ov) (hn : k ≤ 8796093022206) (κ : Int) (a t x : ByteArray) (pl : Bool) (hx : x.size ≤ 140737488351232) (h0 : 0 ≤ κ) (h7 : κ ≤ 7) (ht : (nestTake st κ).1 = true) :
    Calls Tryd.prog 30 #[.pointer (some ⟨p, 0, none⟩), .agg #[.int .i64 κ, .string a, .string t, .string x, .bool pl]] w
      fun e w' => e = .returned (.tuple #[.bool (takeD d ⟨κ, a, t, x, pl⟩).2.1, .int .i64 (takeD d ⟨κ, a, t, x, pl⟩).2.2]) ∧ Below p w w' ∧
        ((takeD d ⟨κ, a, t, x, pl⟩).2.2 = 0 → (takeD d ⟨κ, a, t, x, pl⟩).2.1 = false → GSt p w' (k + 1) (nestTake st κ).2 (takeD d ⟨κ, a, t, x, pl⟩).1 gs ov) ∧
        ((takeD d ⟨κ, a, t, x, pl⟩).2.2 = 0 → (takeD d ⟨κ, a, t, x, pl⟩).2.1 = true → (nestTake st κ).2 = [] ∧ (takeD d ⟨κ, a, t, x, pl⟩).1 = d ∧ ∃ gv y z, Blk w' p [gv, y, z] 64 ∧ OG (p + 1) w' gv d.g ∧ OUT (p + 1) w' ov gs) := by
  by_cases k0 : κ = 0
  · subst k0
    have hst : st = [] := by simpa [nestTake] using ht
    subst hst
    rcases h.now with ⟨_, ⟨x1, y1, z1, hb⟩, ho⟩ | ⟨_, _, _, _, _, h1, _⟩
    · have e : takeD d ⟨0, a, t, x, pl⟩ = (docE, false, 0) := by simp [takeD]
      rw [e]
      refine (take_begin hb a t x pl).mono ?_
      rintro r w' ⟨rfl, ⟨m, hd⟩, hk⟩
      refine ⟨rfl, hk.belowP hb.lt, fun _ _ => ?_, by simp⟩
      exact ⟨by simp [nestTake, nestOK], ⟨by simp [docE], by simp [docE], by simp [docE]⟩, by have := h.cnt; omega, .inr ⟨w, _, _, m, [], by simp [nestTake], ho, hk, hd, by simp [docE, nestTake]⟩⟩
    · exact absurd rfl h1
  cases st with
  | nil =>
    exfalso
    by_cases k1 : κ = 1 <;> by_cases k3 : κ = 3 <;> by_cases k5 : κ = 5 <;> simp [nestTake, popM, k0, k1, k3, k5] at ht
  | cons y r =>
    rcases h.now with ⟨h1, _⟩ | ⟨wB, gv, op, m, kvs, _, hout, hkp, hdoc, hlen⟩
    · simp at h1
    have hpB := hdoc.pB
    have hcnt := h.cnt
    by_cases k1 : κ = 1
    · subst k1
      have hst : r = [] ∧ (nestTake (y :: r) 1).2 = [] := by
        simp only [nestTake, popM] at ht ⊢
        simp only [Int.reduceEq, if_false, if_true] at ht ⊢
        split at ht
        · rename_i hc
          rw [if_pos hc]
          have hs := h.shape
          unfold nestOK at hs
          by_cases hr : r = []
          · exact ⟨hr, hr⟩
          · rw [if_neg hr] at hs
            have h1 := hc.1
            have h2 := hs.1
            omega
        · simp at ht
      obtain ⟨hr, hn'⟩ := hst
      refine (take_end hdoc a t x pl k h.ok (by omega)).mono ?_
      rintro e w' ⟨rfl, hb⟩
      have hB := hkp.below hb hdoc.wB
      cases htw : twiceB d.g
      · have e : takeD d ⟨1, a, t, x, pl⟩ = (d, true, 0) := by simp [takeD, htw]
        rw [e]
        refine ⟨rfl, hb.mono (by have := hdoc.wB; omega), by simp, fun _ _ => ⟨hn', rfl, gv, op, _, (hdoc.below hb).blk, OG.of_doc (hdoc.below hb) h.ok (by omega) (by omega), hout.keep hB (Nat.le_refl _)⟩⟩
      · have e : takeD d ⟨1, a, t, x, pl⟩ = (d, false, 12) := by simp [takeD, htw]
        rw [e]
        exact ⟨rfl, hb.mono (by have := hdoc.wB; omega), by simp, by simp⟩
    by_cases k35 : κ = 3 ∨ κ = 5
    · have hst : (nestTake (y :: r) κ).2 = r ∧ r ≠ [] := by
        have hs := h.shape
        unfold nestOK at hs
        have key : ∀ kd may, (popM (y :: r) kd may).1 = true → (kd = 2 ∨ kd = 4) → (popM (y :: r) kd may).2 = r ∧ r ≠ [] := by
          intro kd may hp hkd
          simp only [popM] at hp ⊢
          split at hp
          · rename_i hc
            rw [if_pos hc]
            refine ⟨rfl, fun hr => ?_⟩
            rw [if_pos hr] at hs
            have h1 := hc.1
            omega
          · simp at hp
        rcases k35 with rfl | rfl
        · simp only [nestTake, Int.reduceEq, if_false, if_true] at ht ⊢
          exact key 2 _ ht (.inl rfl)
        · simp only [nestTake, Int.reduceEq, if_false, if_true] at ht ⊢
          exact key 4 _ ht (.inr rfl)
      obtain ⟨hn', hr⟩ := hst
      rw [hn']
      have hrl : 0 < r.length := List.length_pos_iff.2 hr
      simp only [List.length_cons] at hlen
      have hop : d.op ≠ [] := by intro e; rw [e] at hlen; simp only [List.length_nil] at hlen; omega
      have e : takeD d ⟨κ, a, t, x, pl⟩ = ({ d with op := d.op.dropLast }, false, 0) := by
        unfold takeD; simp only; rw [if_neg k0, if_neg k1, if_pos k35]
      rw [e]
      refine (take_pop hdoc κ k35 a t x pl hop).mono ?_
      rintro e w' ⟨rfl, ⟨ov', hd'⟩, hk'⟩
      refine ⟨rfl, hk'.belowP hpB, fun _ _ => ?_, by simp⟩
      have hs := h.shape
      unfold nestOK at hs
      rw [if_neg hr] at hs
      have hu := h.ok.up
      exact ⟨hs.2, ⟨hu.kids, by simp only [List.length_dropLast]; have := hu.op; omega, hu.g⟩, by omega, .inr ⟨wB, _, _, m, _, hr, hout, hkp.trans hk', hd', by show d.op.dropLast.length + 1 = r.length; rw [List.length_dropLast]; omega⟩⟩
    have k3 : ¬ κ = 3 := fun e => k35 (.inl e)
    have k5 : ¬ κ = 5 := fun e => k35 (.inr e)
    by_cases k7 : κ = 7
    · subst k7
      have hn' : (nestTake (y :: r) 7).2 = (y.1, y.2 + 1) :: r := by simp [nestTake, isColl]
      rw [hn']
      have e : takeD d ⟨7, a, t, x, pl⟩ = ((match d.names a with | none => (d, 11) | some n => kidM d n).1, false, (match d.names a with | none => (d, 11) | some n => kidM d n).2) := by
        unfold takeD; simp only [Int.reduceEq, if_false, or_self, if_true]
        cases d.names a <;> rfl
      rw [e]
      refine (take_alias hdoc a t x pl k h.ok (by omega) _ rfl).mono ?_
      rintro e w' ⟨rfl, ⟨kvs', hd'⟩, hk'⟩
      refine ⟨rfl, hk'.belowP hpB, fun _ _ => ?_, by simp⟩
      have hopl : (match d.names a with | none => (d, 11) | some n => kidM d n).1.op = d.op := by
        cases d.names a
        · rfl
        · exact kidM_op _ _
      have hok' : DocOK (match d.names a with | none => (d, 11) | some n => kidM d n).1 (k + 1) := by
        cases d.names a
        · exact h.ok.up
        · exact kidM_ok h.ok _
      exact ⟨nestOK_top h.shape _, hok', by omega, .inr ⟨wB, _, _, m, _, by simp, hout, hkp.trans hk', hd', by rw [hopl]; simpa using hlen⟩⟩
    · have k246 : κ = 2 ∨ κ = 4 ∨ κ = 6 := by omega
      have hn' : (nestTake (y :: r) κ).2 = if isColl κ then (κ, 0) :: (y.1, y.2 + 1) :: r else (y.1, y.2 + 1) :: r := by
        unfold nestTake; rw [if_neg k0, if_neg k1, if_neg k3, if_neg k5]
      rw [hn']
      have e : takeD d ⟨κ, a, t, x, pl⟩ = ((nodeM d ⟨κ, a, t, x, pl⟩).1, false, (nodeM d ⟨κ, a, t, x, pl⟩).2) := by
        unfold takeD; simp only; rw [if_neg k0, if_neg k1, if_neg k35, if_neg k7]
      rw [e]
      refine (take_node hdoc κ k246 a t x pl hx k h.ok (by omega)).mono ?_
      rintro e w' ⟨rfl, ⟨gv', ov', kvs', hd'⟩, hk'⟩
      refine ⟨rfl, hk'.belowP hpB, fun h0 _ => ?_, by simp⟩
      have hopl := nodeM_op h0
      refine ⟨?_, nodeM_ok h.ok _, by omega, .inr ⟨wB, _, _, m, _, ?_, hout, hkp.trans hk', hd', ?_⟩⟩
      · cases hc : isColl κ
        · exact nestOK_top h.shape _
        · exact nestOK_push (nestOK_top h.shape _) (by simp) κ (by simpa [isColl] using hc)
      · cases isColl κ <;> simp
      · simp only at hopl
        rw [hopl]
        simp only [List.length_cons] at hlen
        cases isColl κ
        · simp; omega
        · simp; omega

/-! ### compose.Graphs -/
def graphsRun : List Ev → DocM → List (List Nd) → List (List Nd) × Int
  | [], _, out => (out, 0)
  | e :: r, d, out =>
    if (takeD d e).2.2 ≠ 0 then ([], (takeD d e).2.2)
    else graphsRun r (takeD d e).1 (if (takeD d e).2.1 then out ++ [(takeD d e).1.g] else out)
def graphsM (es : List Ev) : List (List Nd) × Int := if rightL es = true then graphsRun es docE [] else ([], 5)
theorem nestRun_step {e : Ev} {r : List Ev} {st : List (Int × Int)} (h : nestRun (e :: r) st = some []) : rightE e = true ∧ (nestTake st e.kind).1 = true ∧ nestRun r (nestTake st e.kind).2 = some [] := by
  unfold nestRun at h
  split at h
  · rename_i hc; exact ⟨hc.1, hc.2, h⟩
  · cases h
theorem rightL_run {es : List Ev} (h : rightL es = true) : nestRun es [] = some [] := by
  unfold rightL at h
  split at h
  · assumption
  · cases h
theorem rightE_kind {e : Ev} (h : rightE e = true) : 0 ≤ e.kind ∧ e.kind ≤ 7 := by
  unfold rightE at h
  split at h
  · cases h
  · omega

theorem own_form {w : World} {base : Nat} {e : TypeId} {size n : Nat} {v : Value} {xs : List Value} (h : w.ownsRow base e size v n xs) : ∃ A c, v = .slice A n c := by
  rcases own_forms h with ⟨h1, h2, _⟩ | ⟨g, cap, h1, _⟩
  · exact ⟨none, 0, by rw [h1, h2]⟩
  · exact ⟨_, cap, h1⟩
theorem OG.form {b : Nat} {w : World} {gv : Value} {g : List Nd} (h : OG b w gv g) : ∃ A c, gv = .slice A g.length c := by
  obtain ⟨kvs, h1, _⟩ := h; exact own_form h1
theorem OUT.form {b : Nat} {w : World} {gv : Value} {g : List (List Nd)} (h : OUT b w gv g) : ∃ A c, gv = .slice A g.length c := by
  obtain ⟨kvs, h1, _⟩ := h; exact own_form h1
theorem GSt.form {p : Nat} {w : World} {k : Nat} {st : List (Int × Int)} {d : DocM} {gs : List (List Nd)} {ov : Value} (h : GSt p w k st d gs ov) : ∃ A c, ov = .slice A gs.length c := by
  rcases h.now with ⟨_, _, h⟩ | ⟨_, _, _, _, _, _, h, _⟩
  · exact h.form
  · exact h.form
theorem one_gv {b : Nat} {w : World} {gv : Value} {g : List Nd} (h : OG b w gv g) : [gv].all Value.oneCell' = true := by
  obtain ⟨kvs, h1, _⟩ := h
  rcases own_forms h1 with ⟨rfl, _⟩ | ⟨g, cap, rfl, _⟩ <;> rfl
theorem info_graph : (Tryd.prog.info? 48).map (fun i => (i.zero, i.size, i.bytes)) = some (some (.slice none 0 0), 1, 24) := by kernel_rfl
set_option maxHeartbeats 1000000 in
set_option maxRecDepth 100000 in
theorem graphs_any (A : Option Addr) (n c : Nat) (es : List Ev) (w : World) (h : REv w A n es) (hT : Tabs w) :
    Calls Tryd.prog 12 #[.slice A n c] w fun e w' => (∃ ov b, e = .returned (.tuple #[ov, .int .i64 (graphsM es).2]) ∧ OUT b w' ov (graphsM es).1 ∧ w.heap.size ≤ b) ∧ Below w.heap.size w w' := by
  have hn := h.n
  have hm := h.max
  have HN : Hid (es.length = n) := hn
  have HE := hid' h
  have HT := hid' hT
  have hO : ∀ b W, OUT b W (.slice none 0 0) [] := fun b W => ⟨[], World.ownsRow_nil _ _ _ _, rfl, by simp⟩
  have HO := hid' hO
  clear hn h hT hO
  cases hr : rightL es
  · have hg : Hid (graphsM es = ([], 5)) := by show _ = _; simp [graphsM, hr]
    have HR := hid' hr
    clear hr
    go_enter Tryd.func12, Tryd.ntmps12
    go_wp2_with (go_at_call 17; refine (right_es _ _ _ es _ HE.out HT.out).mono ?_; rw [HR.out]; rintro e w1 ⟨rfl, hb⟩)
    go_ret2
    exact ⟨⟨.slice none 0 0, _, by rw [hg.out]; rfl, by rw [hg.out]; exact HO.out _ _, Nat.le_refl _⟩, by assumption⟩
  · have hg : Hid (graphsM es = graphsRun es docE []) := by show _ = _; simp [graphsM, hr]
    have HRUN := hid' (rightL_run hr)
    have HR := hid' hr
    clear hr
    go_enter Tryd.func12, Tryd.ntmps12
    go_wp2_with (go_at_call 17; refine (right_es _ _ _ es _ HE.out HT.out).mono ?_; rw [HR.out]; rintro e w1 ⟨rfl, hb⟩)
    have hB1 : Below w.heap.size w w1 := by assumption
    have hsz := hB1.size
    obtain ⟨p, hp⟩ : ∃ p, p = w1.heap.size := ⟨_, rfl⟩
    rw [← hp]
    have h0 : GSt p (w1.alloc (.cells #[.slice none 0 0, .slice none 0 0, .map none] 64)) 0 [] docE [] (.slice none 0 0) := by
      rw [hp]
      exact ⟨by simp [nestOK], ⟨by simp [docE], by simp [docE], by simp [docE]⟩, Nat.le_refl _, .inl ⟨rfl, ⟨_, _, _, Blk.new w1 [.slice none 0 0, .slice none 0 0, .map none] _⟩, HO.out _ _⟩⟩
    have hpw : w.heap.size ≤ p := by omega
    have hB2 := hB1.alloc hsz (.cells #[.slice none 0 0, .slice none 0 0, .map none] 64)
    have hlt : p < (w1.alloc (.cells #[.slice none 0 0, .slice none 0 0, .map none] 64)).heap.size := by rw [World.size_alloc]; omega
    clear hp
    have H0 := hid' h0
    clear h0
    go_loopw [2, 16] (fun out i wr => ∃ (k : Nat) (st : List (Int × Int)) (d : DocM) (gs : List (List Nd)), k ≤ n ∧ i = .int .i64 k ∧ Hid (GSt p wr k st d gs out ∧ nestRun (es.drop k) st = some [] ∧ graphsRun es docE [] = graphsRun (es.drop k) d gs) ∧ Below w.heap.size w wr ∧ p < wr.heap.size) (fun _ i _ => n - (intOf i).toNat)
    case atStart => exact ⟨0, [], docE, [], Nat.zero_le _, rfl, ⟨H0.out, by simpa using HRUN.out, by simp⟩, hB2, hlt⟩
    case round =>
      obtain ⟨k, st, d, gs, hk, rfl, hH, hB, hplt⟩ := hrel
      clear hB2 hB1 hsz hlt
      by_cases hlt : k < n
      · have hk' : k < es.length := by rw [HN.out]; exact hlt
        obtain ⟨b, off, rfl, e0, e1, e2, e3, e4⟩ := (HE.out.below hB).at_ k hk'
        have hok := HE.out.ok es[k] (List.getElem_mem hk')
        have hd : es.drop k = es[k] :: es.drop (k + 1) := List.drop_eq_getElem_cons hk'
        generalize es[k] = e at e0 e1 e2 e3 e4 hok hd
        obtain ⟨κ, a, t, x, pl⟩ := e
        obtain ⟨o1, o2, o3, o4, o5⟩ := hok
        simp only at e0 e1 e2 e3 e4 o1 o2 o3 o4 o5
        obtain ⟨hst, hrun, hmod⟩ := hH.out
        rw [hd] at hrun hmod
        obtain ⟨r1, r2, r3⟩ := nestRun_step hrun
        obtain ⟨q1, q2⟩ := rightE_kind r1
        simp only at r2 r3 q1 q2
        rw [graphsRun] at hmod
        have hst1 := hst.below (below1 wr (.cells #[.int .i64 κ, .string a, .string t, .string x, .bool pl] 30))
        have hS := fun W hb => take_step (hst1.below hb) (w := W) (by omega) κ a t x pl o5 q1 q2 r2
        have hB1 : Below w.heap.size w (wr.alloc (.cells #[.int .i64 κ, .string a, .string t, .string x, .bool pl] 30)) := hB.alloc hB.size _
        have hcnt := hst.cnt
        obtain ⟨OA, oc, rfl⟩ := hst.form
        generalize takeD d ⟨κ, a, t, x, pl⟩ = td at hS hmod
        obtain ⟨d', over, err⟩ := td
        simp only at hS hmod
        have HS := hid' (hS _ (Below.refl _ _))
        have HM := hid' hmod
        have R3 := hid' r3
        have hszr : w.heap.size ≤ wr.heap.size := hB.size
        have HOK := hid' hst.ok.up
        clear hS hmod hH hst hst1 hrun hd r1 r2 r3
        by_cases herr : err = 0
        · subst herr
          cases over
          · go_wp2_with (go_at_call 30; refine HS.out.mono ?_; rintro e w2 ⟨rfl, hb2, hn2, hn3⟩; have HB2 := hid' hb2; have HN2 := hid' hn2; clear hb2 hn2 hn3)
            go_roundw
            case rel => exact ⟨k + 1, _, d', gs, by omega, by go_num, ⟨HN2.out (by trivial) (by trivial), R3.out, by rw [HM.out]; simp⟩, hB1.trans (HB2.out.mono hpw), by have := HB2.out.size; simp at this; omega⟩
            case measure => simp [intOf]; omega
          · have HA : Hid (gs.length + 1 ≤ maxLen) := by show _ ≤ _; unfold maxLen; omega
            have HA2 : Hid ((gs.length + 1) * 24 ≤ 140737488355328) := by show _ ≤ _; omega
            go_wp2_with (first | (go_at_call 30; refine HS.out.mono ?_; rintro e w2 ⟨rfl, hb2, hn2, hn3⟩; obtain ⟨g1, g2, gv, y, z, g3, g4, gvs, g5, g6, g7⟩ := hn3 (by trivial) (by trivial); obtain ⟨GA, gc, rfl⟩ := g4.form; have HB2 := hid' hb2; have G1 := hid' g1; have G2 := hid' g2; have G4 := hid' g4; have G5 := hid' g5; have G6 := hid' g6; have G7 := hid' g7; have HP2 := hid' g3; have a0 := g3.cell (j := 0) rfl; have hp2 := g3.lt; clear hb2 hn2 hn3 g1 g2 g3 g4 g5 g6 g7) | (at_builtin; refine append_at _ 34 48 _ 1 24 Tryd.underlying34 info_graph rfl (by decide) rfl _ _ (by rfl) _ _ (by rfl) G5.out [.slice GA d.g.length gc] (by rfl) rfl rfl HA.out HA2.out (by omega) ?_; intro g' cap' w3 hown hg3 hat; have HO3 := hid' hown; have HG3 := hid' hg3; clear hown hg3 hat))
            have hp3 := HP2.out.grown HG3.out (own_block_ne G5.out HP2.out (by decide))
            have hO3 := OUT.push G5.out G6.out G7.out G4.out HO3.out HG3.out
            have hB3 : Below w.heap.size w w3 := (hB1.trans (HB2.out.mono hpw)).grown HG3.out (by omega) (fun q hq => by have := own_base G5.out q hq; omega)
            go_roundw
            case rel => exact ⟨k + 1, _, d', gs ++ [d.g], by omega, by go_num, ⟨⟨by rw [G1.out]; simp [nestOK], by rw [G2.out]; exact HOK.out, by simp; omega, .inl ⟨G1.out, ⟨_, _, _, hp3⟩, hO3⟩⟩, R3.out, by rw [HM.out, G2.out]; simp⟩, hB3, hp3.lt⟩
            case measure => simp [intOf]; omega
        · have herr' : (err != 0) = true := by simp [herr]
          have hf : Hid (graphsM es = ([], err)) := by show _ = _; rw [hg.out, HM.out]; simp [herr]
          go_wp2_with (go_at_call 30; refine HS.out.mono ?_; rintro e w2 ⟨rfl, hb2, hn2, hn3⟩; have HB2 := hid' hb2; clear hb2 hn2 hn3)
          go_ret2
          exact ⟨⟨.slice none 0 0, _, by rw [hf.out]; rfl, by rw [hf.out]; exact HO.out _ _, Nat.le_refl _⟩, hB1.trans (HB2.out.mono hpw)⟩
      · obtain ⟨hst, hrun, hmod⟩ := hH.out
        rw [List.drop_of_length_le (by rw [HN.out]; omega)] at hrun hmod
        simp only [nestRun, Option.some.injEq] at hrun
        subst hrun
        simp only [graphsRun] at hmod
        have hf : Hid (graphsM es = (gs, 0)) := by show _ = _; rw [hg.out, hmod]
        rcases hst.now with ⟨_, _, ho⟩ | ⟨_, _, _, _, _, hne, _⟩
        · have HOUT := hid' ho
          clear ho hst hmod hH
          go_wp2_with fail
          go_ret2
          exact ⟨⟨_, by rw [hf.out]; rfl, p + 1, by rw [hf.out]; exact HOUT.out, by omega⟩, hB⟩
        · exact absurd rfl hne
end Go.Proofs.YthkkcbfemmpfmaaDoor
