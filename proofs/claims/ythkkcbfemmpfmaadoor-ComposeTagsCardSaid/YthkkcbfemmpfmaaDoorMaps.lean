import Derived.Test.YthkkcbfemmpfmaaDoorRight
import Derived.Laws.StructEq
set_option linter.unusedSimpArgs false
set_option linter.unusedVariables false
set_option linter.unusedSectionVars false
namespace Go.Proofs.YthkkcbfemmpfmaaDoor
open Go.RowKit Go.Lib Go.Instr

structure KeyOK {α : Type} (K : TypeId) (enc : α → Value) : Prop where
  inj : ∀ a b, enc a = enc b → a = b
  check : ∀ (w : World) (em : Bool) (a : α), (checkKey em 10000 K (enc a)).run Tryd.prog w = .ok () w
  find : ∀ (w : World) (a : α) (es : List MapEntry), (∀ e ∈ es, ∃ b, e.key = enc b) →
    ((findKey K (enc a) es).run Tryd.prog w = .ok none w ∧ ∀ e ∈ es, e.key ≠ enc a) ∨ ∃ j e, (findKey K (enc a) es).run Tryd.prog w = .ok (some (j, e.val)) w ∧ es[j]? = some e ∧ e.key = enc a
  stays : ∀ (w : World) (a : α), (keyThatStays (enc a) (enc a)).run Tryd.prog w = .ok (enc a) w

def leafV (x : ByteArray × ByteArray) : Value := .agg #[.string x.1, .string x.2]
theorem leaf_eq (x y : ByteArray × ByteArray) (w : World) : (Op.equal 105 (leafV x) (leafV y)).run Tryd.prog w = .ok (x.1.toList == y.1.toList && x.2.toList == y.2.toList) w := by
  unfold Op.equal Op.maxDepth leafV
  go_simp
  by_cases h1 : x.1.toList = y.1.toList <;> by_cases h2 : x.2.toList = y.2.toList <;> simp [h1, h2]
theorem str_check (w : World) (em : Bool) (n : Nat) (a : ByteArray) : (checkKey em (n + 1) 9 (.string a)).run Tryd.prog w = .ok () w :=
  MapKept.run_checkKey Tryd.underlying9 (by trivial) em n
theorem int_check (w : World) (em : Bool) (n : Nat) (a : Int) : (checkKey em (n + 1) 3 (.int .i64 a)).run Tryd.prog w = .ok () w :=
  MapKept.run_checkKey Tryd.underlying3 (by trivial) em n
theorem leaf_check (w : World) (em : Bool) (a : ByteArray × ByteArray) : (checkKey em 10000 105 (leafV a)).run Tryd.prog w = .ok () w := by
  show (checkKey em (9998 + 1 + 1) 105 (leafV a)).run Tryd.prog w = .ok () w
  unfold checkKey leafV
  simp [str_check, go_sem]
theorem leaf_stays (w : World) (a : ByteArray × ByteArray) : (keyThatStays (leafV a) (leafV a)).run Tryd.prog w = .ok (leafV a) w := by
  have h1 : (a.1 == a.1) = true := by rw [beq_toListBytes]; simp
  have h2 : (a.2 == a.2) = true := by rw [beq_toListBytes]; simp
  simp [leafV, keyThatStays, sameBits, h1, h2, go_sem]
theorem plain_find {α : Type} {K : TypeId} {d : TypeDesc} (enc : α → Value) (hd : Tryd.prog.underlying K = some d) (hk : ∀ a, MapKept.IsKey d (enc a)) (w : World) (a : α) (es : List MapEntry) (h : ∀ e ∈ es, ∃ b, e.key = enc b) :
    ((findKey K (enc a) es).run Tryd.prog w = .ok none w ∧ ∀ e ∈ es, e.key ≠ enc a) ∨ ∃ j e, (findKey K (enc a) es).run Tryd.prog w = .ok (some (j, e.val)) w ∧ es[j]? = some e ∧ e.key = enc a := by
  rcases MapKept.findNow_spec (hk a) es 0 (fun x hx => by obtain ⟨b, hb⟩ := h x hx; rw [hb]; exact hk b) with ⟨h1, h2⟩ | ⟨j, e, h1, h2, h3⟩
  · exact .inl ⟨MapKept.run_findKey hd h1, h2⟩
  · exact .inr ⟨j, e, by rw [MapKept.run_findKey hd h1, Nat.zero_add], h2, h3⟩
theorem leaf_asking (w : World) (a : ByteArray × ByteArray) : ∀ (es : List MapEntry) (i : Nat), (∀ e ∈ es, ∃ b, e.key = leafV b) →
    ((findAsking 105 (leafV a) es i).run Tryd.prog w = .ok none w ∧ ∀ e ∈ es, e.key ≠ leafV a) ∨ ∃ j e, (findAsking 105 (leafV a) es i).run Tryd.prog w = .ok (some (i + j, e.val)) w ∧ es[j]? = some e ∧ e.key = leafV a
  | [], _, _ => .inl ⟨rfl, by simp⟩
  | e :: es, i, h => by
    obtain ⟨b, hb⟩ := h e (by simp)
    by_cases hab : a = b
    · subst hab
      refine .inr ⟨0, e, ?_, rfl, hb⟩
      unfold findAsking
      rw [hb]
      simp [leaf_eq, Result.andThen]
    · have hne : (a.1.toList == b.1.toList && a.2.toList == b.2.toList) = false := by
        rw [Bool.and_eq_false_iff, beq_eq_false_iff_ne, beq_eq_false_iff_ne]
        by_cases h1 : a.1.toList = b.1.toList
        · exact .inr fun h2 => hab (Prod.ext (bytes_ext h1) (bytes_ext h2))
        · exact .inl h1
      have hs : (findAsking 105 (leafV a) (e :: es) i).run Tryd.prog w = (findAsking 105 (leafV a) es (i + 1)).run Tryd.prog w := by
        conv => lhs; unfold findAsking
        rw [hb]
        simp [leaf_eq, hne, Result.andThen]
      have hk : e.key ≠ leafV a := by
        rw [hb]; intro h'
        simp only [leafV, Value.agg.injEq] at h'
        have h1 : #[Value.string b.1, Value.string b.2] = #[Value.string a.1, Value.string a.2] := h'
        simp at h1
        exact hab (Prod.ext h1.1.symm h1.2.symm)
      rcases leaf_asking w a es (i + 1) (fun x hx => h x (by simp [hx])) with ⟨h1, h2⟩ | ⟨j, e', h1, h2, h3⟩
      · refine .inl ⟨hs.trans h1, fun x hx => ?_⟩
        rcases List.mem_cons.1 hx with rfl | hx
        · exact hk
        · exact h2 x hx
      · exact .inr ⟨j + 1, e', by rw [hs, h1, show i + 1 + j = i + (j + 1) from by omega], by simpa using h2, h3⟩
theorem leaf_find (w : World) (a : ByteArray × ByteArray) (es : List MapEntry) (h : ∀ e ∈ es, ∃ b, e.key = leafV b) :
    ((findKey 105 (leafV a) es).run Tryd.prog w = .ok none w ∧ ∀ e ∈ es, e.key ≠ leafV a) ∨ ∃ j e, (findKey 105 (leafV a) es).run Tryd.prog w = .ok (some (j, e.val)) w ∧ es[j]? = some e ∧ e.key = leafV a := by
  cases es with
  | nil =>
    refine .inl ⟨?_, by simp⟩
    unfold findKey
    simp only [Sem.run_bind, run_underlying Tryd.underlying105, Result.andThen, findNow]
    rfl
  | cons e es =>
    have hs : (findKey 105 (leafV a) (e :: es)).run Tryd.prog w = (findAsking 105 (leafV a) (e :: es) 0).run Tryd.prog w := by
      obtain ⟨b, hb⟩ := h e (by simp)
      have hn : ∀ k, findNow (.struct k) (leafV a) (e :: es) 0 = none := by intro k; unfold findNow; rw [hb]; rfl
      unfold findKey
      simp only [Sem.run_bind, run_underlying Tryd.underlying105, Result.andThen, hn]
    rw [hs]
    have := leaf_asking w a (e :: es) 0 h
    simpa using this
theorem keyStr : KeyOK 9 (fun s : ByteArray => Value.string s) := ⟨fun a b h => by simpa using h, fun w em a => str_check w em 9999 a, plain_find _ Tryd.underlying9 (fun _ => trivial), fun w a => MapKept.run_keyThatStays (d := .string) (by trivial)⟩
theorem keyInt : KeyOK 3 (fun n : Int => Value.int .i64 n) := ⟨fun a b h => by simpa using h, fun w em a => int_check w em 9999 a, plain_find _ Tryd.underlying3 (fun _ => by simp [MapKept.IsKey]), fun w a => MapKept.run_keyThatStays (d := .int .i64) (by simp [MapKept.IsKey])⟩
theorem keyLeaf : KeyOK 105 leafV := ⟨fun a b h => by
    simp only [leafV, Value.agg.injEq] at h
    have h1 : #[Value.string a.1, Value.string a.2] = #[Value.string b.1, Value.string b.2] := h
    simp at h1
    exact Prod.ext h1.1 h1.2, leaf_check, leaf_find, leaf_stays⟩

/-! ### a map of whole numbers, told as a function -/
structure MapFn {α : Type} (w : World) (m : Nat) (enc : α → Value) (f : α → Option Int) (arr : Array MapEntry) (clock : Nat) : Prop where
  heap : w.heap[m]? = some (.map arr clock)
  keyed : ∀ e ∈ arr.toList, ∃ a n, e.key = enc a ∧ e.val = .int .i64 n ∧ f a = some n
  has : ∀ a n, f a = some n → ∃ e ∈ arr.toList, e.key = enc a
  dist : (arr.toList.map (·.key)).Pairwise (· ≠ ·)
  born : (arr.toList.map (·.born)).Pairwise (· ≠ ·)
  lt : ∀ e ∈ arr.toList, e.born < clock
def MapIs {α : Type} (w : World) (m : Nat) (enc : α → Value) (f : α → Option Int) : Prop := ∃ arr clock, MapFn w m enc f arr clock
theorem MapIs.lt {α : Type} {w : World} {m : Nat} {enc : α → Value} {f : α → Option Int} (h : MapIs w m enc f) : m < w.heap.size := by
  obtain ⟨arr, c, h⟩ := h; exact (Array.getElem?_eq_some_iff.1 h.heap).1
theorem MapIs.kept {α : Type} {w w' : World} {m : Nat} {enc : α → Value} {f : α → Option Int} (h : MapIs w m enc f) (hm : w'.heap[m]? = w.heap[m]?) : MapIs w' m enc f := by
  obtain ⟨arr, c, h⟩ := h; exact ⟨arr, c, hm.trans h.heap, h.keyed, h.has, h.dist, h.born, h.lt⟩
theorem MapIs.below {α : Type} {w w' : World} {m : Nat} {enc : α → Value} {f : α → Option Int} (h : MapIs w m enc f) (hb : Below w.heap.size w w') : MapIs w' m enc f := h.kept (hb.block m h.lt)
theorem MapIs.new {α : Type} (w : World) (enc : α → Value) : MapIs (w.alloc (.map #[] 0)) w.heap.size enc (fun _ => none) :=
  ⟨#[], 0, heap_alloc_new w _, by simp, by simp, by simp, by simp, by simp⟩
theorem map_lookup {α : Type} {K T : TypeId} {enc : α → Value} (k : KeyOK K enc) (hT : Tryd.prog.underlying T = some (.map K 3)) {w : World} {m : Nat} {f : α → Option Int} (h : MapIs w m enc f) (a : α) :
    (Instr.lookup T (.map (some m)) (enc a) false).run Tryd.prog w = .ok (.int .i64 ((f a).getD 0)) w ∧
    (Instr.lookup T (.map (some m)) (enc a) true).run Tryd.prog w = .ok (.tuple #[.int .i64 ((f a).getD 0), .bool (f a).isSome]) w := by
  obtain ⟨arr, c, h⟩ := h
  have hz : (zeroValue 3).run Tryd.prog w = .ok (.int .i64 0) w := by kernel_rfl
  rcases k.find w a arr.toList (fun e he => by obtain ⟨b, n, h1, _⟩ := h.keyed e he; exact ⟨b, h1⟩) with ⟨h1, h2⟩ | ⟨j, e, h1, h2, h3⟩
  · have hf : f a = none := by
      cases hf : f a with
      | none => rfl
      | some n => obtain ⟨e, he, hk⟩ := h.has a n hf; exact absurd hk (h2 e he)
    constructor <;> simp [Instr.lookup, run_underlying hT, MapKept.run_getObj_map h.heap, k.check, h1, hz, hf, Result.andThen]
  · obtain ⟨b, n, g1, g2, g3⟩ := h.keyed e (List.mem_of_getElem? h2)
    obtain rfl : b = a := k.inj _ _ (g1.symm.trans h3)
    constructor <;> simp [Instr.lookup, run_underlying hT, MapKept.run_getObj_map h.heap, k.check, h1, g2, g3, Result.andThen]

/-- One block has turned, and nothing else. -/
structure Only (m : Nat) (w w1 : World) : Prop where
  os : w1.os = w.os
  tape : w1.tape = w.tape
  output : w1.output = w.output
  size : w1.heap.size = w.heap.size
  block : ∀ b, b ≠ m → w1.heap[b]? = w.heap[b]?
theorem Only.trans {m : Nat} {a b c : World} (h : Only m a b) (k : Only m b c) : Only m a c :=
  ⟨k.os.trans h.os, k.tape.trans h.tape, k.output.trans h.output, k.size.trans h.size, fun i hi => (k.block i hi).trans (h.block i hi)⟩
theorem Only.set (w : World) (m : Nat) (o : Obj) : Only m w { w with heap := w.heap.setIfInBounds m o } :=
  ⟨rfl, rfl, rfl, by simp, fun b hb => by simp [Ne.symm hb]⟩
theorem Only.below {m B : Nat} {w w1 : World} (h : Only m w w1) (hB : B ≤ m) : Below B w w1 := ⟨h.os, h.tape, h.output, by rw [h.size]; exact Nat.le_refl _, fun k hk => h.block k (by omega)⟩
theorem Only.cell {m : Nat} {w w1 : World} (h : Only m w w1) {b : Nat} (o : Nat) (hb : b ≠ m) : w1.cell? ⟨b, o, none⟩ = w.cell? ⟨b, o, none⟩ := World.cell?_of_block (w := w) (h.block b hb)
theorem Only.frozen {m : Nat} {w w1 : World} (h : Only m w w1) {b : Nat} (o : Nat) (hb : b ≠ m) : w1.frozen? ⟨b, o, none⟩ = w.frozen? ⟨b, o, none⟩ := World.frozen?_of_block (w := w) (h.block b hb)
theorem Only.grown {m : Nat} {w w1 : World} (h : Only m w w1) : w.grownBy w1 (some m) := ⟨h.os, h.tape, h.output, by rw [h.size]; exact Nat.le_refl _, fun k _ hk => h.block k (fun e => hk (by rw [e]))⟩

def put {α : Type} [DecidableEq α] (f : α → Option Int) (a : α) (v : Int) : α → Option Int := fun b => if b = a then some v else f b
theorem map_key_modify (arr : Array MapEntry) (i : Nat) (g : MapEntry → MapEntry) (hg : ∀ e, arr.toList[i]? = some e → (g e).key = e.key ∧ (g e).born = e.born) :
    ((arr.modify i g).toList.map (·.key)) = arr.toList.map (·.key) ∧ ((arr.modify i g).toList.map (·.born)) = arr.toList.map (·.born) := by
  constructor
  · apply List.ext_getElem?
    intro j
    simp only [List.getElem?_map, Array.getElem?_toList, Array.getElem?_modify]
    split
    · rename_i h; subst h
      cases hj : arr[i]? with
      | none => rfl
      | some e => simp [(hg e (by simpa using hj)).1]
    · rfl
  · apply List.ext_getElem?
    intro j
    simp only [List.getElem?_map, Array.getElem?_toList, Array.getElem?_modify]
    split
    · rename_i h; subst h
      cases hj : arr[i]? with
      | none => rfl
      | some e => simp [(hg e (by simpa using hj)).2]
    · rfl
theorem nodup_index {l : List Value} (h : l.Pairwise (· ≠ ·)) {i j : Nat} {v : Value} (hi : l[i]? = some v) (hj : l[j]? = some v) : i = j := by
  obtain ⟨h1, h2⟩ := List.getElem?_eq_some_iff.1 hi
  obtain ⟨h3, h4⟩ := List.getElem?_eq_some_iff.1 hj
  rcases Nat.lt_trichotomy i j with hlt | rfl | hlt
  · exact absurd (h2.trans h4.symm) (List.pairwise_iff_getElem.1 h i j h1 h3 hlt)
  · rfl
  · exact absurd (h4.trans h2.symm) (List.pairwise_iff_getElem.1 h j i h3 h1 hlt)
theorem nodup_indexN {l : List Nat} (h : l.Pairwise (· ≠ ·)) {i j : Nat} {v : Nat} (hi : l[i]? = some v) (hj : l[j]? = some v) : i = j := by
  obtain ⟨h1, h2⟩ := List.getElem?_eq_some_iff.1 hi
  obtain ⟨h3, h4⟩ := List.getElem?_eq_some_iff.1 hj
  rcases Nat.lt_trichotomy i j with hlt | rfl | hlt
  · exact absurd (h2.trans h4.symm) (List.pairwise_iff_getElem.1 h i j h1 h3 hlt)
  · rfl
  · exact absurd (h4.trans h2.symm) (List.pairwise_iff_getElem.1 h j i h3 h1 hlt)

section
variable {α : Type} [DecidableEq α] {K : TypeId} {enc : α → Value} {w : World} {m : Nat} {f : α → Option Int} {arr : Array MapEntry} {clock : Nat}
/-- an entry more -/
theorem MapFn.push (k : KeyOK K enc) (h : MapFn w m enc f arr clock) (a : α) (v : Int) (hno : ∀ e ∈ arr.toList, e.key ≠ enc a) :
    MapFn { w with heap := w.heap.setIfInBounds m (.map (arr.push { key := enc a, val := .int .i64 v, born := clock }) (clock + 1)) } m enc (put f a v) (arr.push { key := enc a, val := .int .i64 v, born := clock }) (clock + 1) := by
  have hlt : m < w.heap.size := (Array.getElem?_eq_some_iff.1 h.heap).1
  refine ⟨by simp [hlt], ?_, ?_, ?_, ?_, ?_⟩
  · intro e he
    simp only [Array.toList_push, List.mem_append, List.mem_singleton] at he
    rcases he with he | rfl
    · obtain ⟨b, n, h1, h2, h3⟩ := h.keyed e he
      refine ⟨b, n, h1, h2, ?_⟩
      have hba : b ≠ a := fun e' => hno e he (by rw [h1, e'])
      simp [put, hba, h3]
    · exact ⟨a, v, rfl, rfl, by simp [put]⟩
  · intro b n hb
    by_cases hba : b = a
    · exact ⟨{ key := enc a, val := .int .i64 v, born := clock }, by simp, by rw [hba]⟩
    · simp only [put, hba, if_false] at hb
      obtain ⟨e, he, hk⟩ := h.has b n hb
      exact ⟨e, by simp [he], hk⟩
  · simp only [Array.toList_push, List.map_append, List.map_cons, List.map_nil, List.pairwise_append]
    refine ⟨h.dist, by simp, ?_⟩
    intro x hx y hy
    obtain ⟨e, he, rfl⟩ := List.mem_map.1 hx
    obtain rfl : y = enc a := by simpa using hy
    exact hno e he
  · simp only [Array.toList_push, List.map_append, List.map_cons, List.map_nil, List.pairwise_append]
    refine ⟨h.born, by simp, ?_⟩
    intro x hx y hy
    obtain ⟨e, he, rfl⟩ := List.mem_map.1 hx
    obtain rfl : y = clock := by simpa using hy
    have := h.lt e he; omega
  · intro e he
    simp only [Array.toList_push, List.mem_append, List.mem_singleton] at he
    rcases he with he | rfl
    · have := h.lt e he; omega
    · simp
/-- an entry written -/
theorem MapFn.modify (k : KeyOK K enc) (h : MapFn w m enc f arr clock) (a : α) (v : Int) (i : Nat) (e : MapEntry) (hi : arr.toList[i]? = some e) (hk : e.key = enc a) (g : MapEntry → MapEntry) (hg : (g e).key = enc a ∧ (g e).val = .int .i64 v ∧ (g e).born = e.born) :
    MapFn { w with heap := w.heap.setIfInBounds m (.map (arr.modify i g) clock) } m enc (put f a v) (arr.modify i g) clock := by
  have hlt : m < w.heap.size := (Array.getElem?_eq_some_iff.1 h.heap).1
  have hmk := map_key_modify arr i g (fun e' he' => by rw [hi] at he'; cases he'; exact ⟨hg.1.trans hk.symm, hg.2.2⟩)
  have hmem : ∀ x ∈ (arr.modify i g).toList, (x = g e) ∨ (x ∈ arr.toList ∧ x.key ≠ enc a) := by
    intro x hx
    obtain ⟨j, hj⟩ := List.mem_iff_getElem?.1 hx
    rw [Array.getElem?_toList, Array.getElem?_modify] at hj
    split at hj
    · rename_i hij; subst hij
      have hi' : arr[i]? = some e := by simpa using hi
      rw [hi'] at hj
      exact .inl (by simpa using hj.symm)
    · rename_i hij
      have hj' : arr.toList[j]? = some x := by simpa using hj
      refine .inr ⟨List.mem_of_getElem? hj', fun hx' => hij ?_⟩
      have a1 : (arr.toList.map (·.key))[i]? = some (enc a) := by simp only [List.getElem?_map, hi, Option.map_some, hk]
      have a2 : (arr.toList.map (·.key))[j]? = some (enc a) := by simp only [List.getElem?_map, hj', Option.map_some, hx']
      exact nodup_index h.dist a1 a2
  refine ⟨by simp [hlt], ?_, ?_, by rw [hmk.1]; exact h.dist, by rw [hmk.2]; exact h.born, ?_⟩
  · intro x hx
    rcases hmem x hx with rfl | ⟨hx', hne⟩
    · exact ⟨a, v, hg.1, hg.2.1, by simp [put]⟩
    · obtain ⟨b, n, h1, h2, h3⟩ := h.keyed x hx'
      refine ⟨b, n, h1, h2, ?_⟩
      have hba : b ≠ a := fun e' => hne (by rw [h1, e'])
      simp [put, hba, h3]
  · intro b n hb
    have hmem' : ∀ kv, kv ∈ arr.toList.map (·.key) → ∃ x ∈ (arr.modify i g).toList, x.key = kv := by
      intro kv hkv
      rw [← hmk.1] at hkv
      exact List.mem_map.1 hkv
    by_cases hba : b = a
    · obtain ⟨x, hx, hxk⟩ := hmem' (enc a) (List.mem_map.2 ⟨e, List.mem_of_getElem? hi, hk⟩)
      exact ⟨x, hx, by rw [hxk, hba]⟩
    · simp only [put, hba, if_false] at hb
      obtain ⟨e', he', hk'⟩ := h.has b n hb
      obtain ⟨x, hx, hxk⟩ := hmem' (enc b) (List.mem_map.2 ⟨e', he', hk'⟩)
      exact ⟨x, hx, hxk⟩
  · intro x hx
    rcases hmem x hx with rfl | ⟨hx', _⟩
    · rw [hg.2.2]; exact h.lt e (List.mem_of_getElem? hi)
    · exact h.lt x hx'
theorem map_update {T : TypeId} (k : KeyOK K enc) (hT : Tryd.prog.underlying T = some (.map K 3)) (h : MapIs w m enc f) (a : α) (v : Int) :
    ∃ w1, (Instr.mapUpdate T (.map (some m)) (enc a) (.int .i64 v)).run Tryd.prog w = .ok () w1 ∧ MapIs w1 m enc (put f a v) ∧ Only m w w1 := by
  obtain ⟨arr, c, h⟩ := h
  rcases k.find w a arr.toList (fun e he => by obtain ⟨b, n, h1, _⟩ := h.keyed e he; exact ⟨b, h1⟩) with ⟨h1, h2⟩ | ⟨j, e, h1, h2, h3⟩
  · refine ⟨_, ?_, ⟨_, _, h.push k a v h2⟩, Only.set _ _ _⟩
    simp [Instr.mapUpdate, run_underlying hT, MapKept.run_getObj_map h.heap, k.check, h1, MapKept.run_setObj_map _ h.heap, Result.andThen]
  · have hj : arr[j]? = some e := by simpa using h2
    refine ⟨_, ?_, ⟨_, _, h.modify k a v j e h2 h3 (fun e => { e with key := enc a, val := .int .i64 v }) ⟨rfl, rfl, rfl⟩⟩, Only.set _ _ _⟩
    simp [Instr.mapUpdate, run_underlying hT, MapKept.run_getObj_map h.heap, k.check, h1, hj, h3, k.stays, MapKept.run_setObj_map _ h.heap, Result.andThen]

theorem put_put (f : α → Option Int) (a : α) (u v : Int) : put (put f a u) a v = put f a v := by
  funext b; simp only [put]; split <;> rfl
theorem findIdx_born (h : MapFn w m enc f arr clock) {i : Nat} {e : MapEntry} (hi : arr.toList[i]? = some e) : arr.findIdx? (fun x => ((x.born : Int) == (e.born : Int))) = some i := by
  have hi' : arr[i]? = some e := by simpa using hi
  obtain ⟨hlt, he⟩ := Array.getElem?_eq_some_iff.1 hi'
  rw [Array.findIdx?_eq_some_iff_getElem]
  refine ⟨hlt, by simp [he], fun j hj => ?_⟩
  have hjl : j < arr.size := by omega
  simp only [beq_iff_eq, Int.natCast_inj, Bool.not_eq_true, beq_eq_false_iff_ne, ne_eq]
  intro hb
  have a1 : (arr.toList.map (·.born))[i]? = some e.born := by simp only [List.getElem?_map, hi, Option.map_some]
  have a2 : (arr.toList.map (·.born))[j]? = some e.born := by
    have : arr.toList[j]? = some arr[j] := by simp [hjl]
    simp only [List.getElem?_map, this, Option.map_some, hb]
  have := nodup_indexN h.born a1 a2
  omega
theorem entry_store {T : TypeId} (k : KeyOK K enc) (h : MapFn w m enc f arr clock) (a : α) (i : Nat) (e : MapEntry) (hi : arr.toList[i]? = some e) (hk : e.key = enc a) (v : Int) :
    ∃ w2, (Instr.entryStore T (.map (some m)) (.int .i64 e.born) (.int .i64 v)).run Tryd.prog w = .ok () w2 ∧ MapIs w2 m enc (put f a v) ∧ Only m w w2 := by
  have hf := findIdx_born h hi
  refine ⟨_, ?_, ⟨_, _, h.modify k a v i e hi hk (fun e => { e with val := .int .i64 v }) ⟨hk, rfl, rfl⟩⟩, Only.set _ _ _⟩
  simp [Instr.entryStore, MapKept.run_getObj_map h.heap, asInt, asIntOf, hf, MapKept.run_setObj_map _ h.heap, Result.andThen]
theorem map_entry {T : TypeId} (k : KeyOK K enc) (hT : Tryd.prog.underlying T = some (.map K 3)) (h : MapIs w m enc f) (a : α) :
    ∃ v0 stamp w1, (Instr.mapEntry T (.map (some m)) (enc a)).run Tryd.prog w = .ok (.tuple #[v0, .int .i64 stamp]) w1 ∧ Only m w w1 ∧ (Instr.lookup T (.map (some m)) (enc a) false).run Tryd.prog w1 = .ok (.int .i64 ((f a).getD 0)) w1 ∧
      ∀ v, ∃ w2, (Instr.entryStore T (.map (some m)) (.int .i64 stamp) (.int .i64 v)).run Tryd.prog w1 = .ok () w2 ∧ MapIs w2 m enc (put f a v) ∧ Only m w w2 := by
  have hz : (zeroValue 3).run Tryd.prog w = .ok (.int .i64 0) w := by kernel_rfl
  obtain ⟨arr, c, h⟩ := h
  rcases k.find w a arr.toList (fun e he => by obtain ⟨b, n, h1, _⟩ := h.keyed e he; exact ⟨b, h1⟩) with ⟨h1, h2⟩ | ⟨j, e, h1, h2, h3⟩
  · have hrun : (Instr.mapEntry T (.map (some m)) (enc a)).run Tryd.prog w = .ok (.tuple #[.int .i64 0, .int .i64 c]) { w with heap := w.heap.setIfInBounds m (.map (arr.push { key := enc a, val := .int .i64 0, born := c }) (c + 1)) } := by
      simp [Instr.mapEntry, run_underlying hT, MapKept.run_getObj_map h.heap, k.check, h1, hz, goInt, MapKept.run_setObj_map _ h.heap, Result.andThen]
    have hp := h.push k a 0 h2
    have hfn : (f a).getD 0 = 0 := by
      cases hf : f a with
      | none => rfl
      | some n => obtain ⟨e, he, hk⟩ := h.has a n hf; exact absurd hk (h2 e he)
    refine ⟨_, _, _, hrun, Only.set _ _ _, ?_, fun v => ?_⟩
    · have := (map_lookup k hT ⟨_, _, hp⟩ a).1
      simp only [put, if_true, Option.getD_some] at this
      rw [hfn]; exact this
    obtain ⟨w2, g1, g2, g3⟩ := entry_store (T := T) k hp a arr.size { key := enc a, val := .int .i64 0, born := c } (by simp) rfl v
    exact ⟨w2, g1, by rw [put_put] at g2; exact g2, (Only.set _ _ _).trans g3⟩
  · have hj : arr[j]? = some e := by simpa using h2
    obtain ⟨b, n, q1, q2, q3⟩ := h.keyed e (List.mem_of_getElem? h2)
    obtain rfl : b = a := k.inj _ _ (q1.symm.trans h3)
    have hrun : (Instr.mapEntry T (.map (some m)) (enc b)).run Tryd.prog w = .ok (.tuple #[e.val, .int .i64 e.born]) { w with heap := w.heap.setIfInBounds m (.map (arr.modify j (fun e => { e with key := enc b })) c) } := by
      simp [Instr.mapEntry, run_underlying hT, MapKept.run_getObj_map h.heap, k.check, h1, hj, h3, k.stays, goInt, MapKept.run_setObj_map _ h.heap, Result.andThen]
    have hp := h.modify k b n j e h2 h3 (fun e => { e with key := enc b }) ⟨rfl, q2, rfl⟩
    refine ⟨_, _, _, hrun, Only.set _ _ _, ?_, fun v => ?_⟩
    · have := (map_lookup k hT ⟨_, _, hp⟩ b).1
      simp only [put, if_true, Option.getD_some] at this
      rw [q3]; exact this
    obtain ⟨w2, g1, g2, g3⟩ := entry_store (T := T) k hp b j { e with key := enc b } (by simp [Array.getElem?_modify, hj]) rfl v
    exact ⟨w2, g1, by rw [put_put] at g2; exact g2, (Only.set _ _ _).trans g3⟩
end
end Go.Proofs.YthkkcbfemmpfmaaDoor
