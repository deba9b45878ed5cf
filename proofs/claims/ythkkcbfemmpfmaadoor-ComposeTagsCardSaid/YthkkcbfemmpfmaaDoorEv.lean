import Derived.Test.YthkkcbfemmpfmaaDoorTag3
set_option linter.unusedSimpArgs false
set_option linter.unusedVariables false
namespace Go.Proofs.YthkkcbfemmpfmaaDoor
open Go.RowKit Go.Lib

theorem bcell {W w1 : World} (hb : Below W.heap.size W w1) : ∀ b o, b < W.heap.size → w1.cell? ⟨b, o, none⟩ = W.cell? ⟨b, o, none⟩ := fun b o h => hb.cell (p := ⟨b, o, none⟩) h
theorem bfroz {W w1 : World} (hb : Below W.heap.size W w1) : ∀ b o, b < W.heap.size → w1.frozen? ⟨b, o, none⟩ = W.frozen? ⟨b, o, none⟩ := fun b o h => hb.frozen (p := ⟨b, o, none⟩) h

/-! ### events -/
structure Ev where
  kind : Int
  anchor : ByteArray
  tag : ByteArray
  text : ByteArray
  plain : Bool
def Ev.cells (e : Ev) : List Value := [.int .i64 e.kind, .string e.anchor, .string e.tag, .string e.text, .bool e.plain]
def Ev.ok (e : Ev) : Prop := -9223372036854775808 ≤ e.kind ∧ e.kind ≤ 9223372036854775807 ∧ e.anchor.size ≤ 140737488351232 ∧ e.tag.size ≤ 140737488351232 ∧ e.text.size ≤ 140737488351232

def tagE (e : Ev) : ByteArray × Int :=
  if e.kind = 2 then tagTwo e.tag tSeq
  else if e.kind = 4 then tagTwo e.tag tMap
  else if e.kind = 6 then
    (if e.tag.toList.isEmpty && e.plain then (resolveB e.text, 0)
     else if e.tag.toList.isEmpty then (tStr, 0)
     else if fitsB e.tag e.text then (e.tag, 0) else (⟨#[]⟩, 14))
  else (⟨#[]⟩, 5)
theorem tag_any (k : Int) (a t x : ByteArray) (p : Bool) (w : World) (hx : x.size ≤ 140737488351232) :
    Calls Tryd.prog 10 #[.agg #[.int .i64 k, .string a, .string t, .string x, .bool p]] w
      fun e w' => e = .returned (.tuple #[.string (tagE ⟨k, a, t, x, p⟩).1, .int .i64 (tagE ⟨k, a, t, x, p⟩).2]) ∧ Below w.heap.size w w' := by
  have hB : Below w.heap.size w (w.alloc (.cells #[.int .i64 k, .string a, .string t, .string x, .bool p] 30)) := (Below.refl _ _).alloc (Nat.le_refl _) _
  by_cases h2 : k = 2
  · subst h2
    go_enter Tryd.func10, Tryd.ntmps10
    go_wp2_with (go_at_call 23; refine (cnamed_any _ _ _).mono ?_; rintro e w' ⟨rfl, hb⟩)
    go_ret2
    exact ⟨by simp [tagE, tSeq], hB.trans (Below.mono (by assumption) (by simp))⟩
  · by_cases h4 : k = 4
    · subst h4
      go_enter Tryd.func10, Tryd.ntmps10
      go_wp2_with (go_at_call 23; refine (cnamed_any _ _ _).mono ?_; rintro e w' ⟨rfl, hb⟩)
      go_ret2
      exact ⟨by simp [tagE, tMap], hB.trans (Below.mono (by assumption) (by simp))⟩
    · by_cases h6 : k = 6
      · subst h6
        cases he : t.toList.isEmpty
        · cases hf : fitsB t x
          all_goals
            go_enter Tryd.func10, Tryd.ntmps10
            go_wp2_with (go_at_call 25; refine (fits_any _ _ _ (by omega)).mono ?_; rintro e w' ⟨rfl, hb⟩; have hc := bcell hb)
            go_ret2
            exact ⟨by simp [tagE, he, hf], hB.trans (Below.mono (by assumption) (by simp))⟩
        · cases p
          all_goals
            go_enter Tryd.func10, Tryd.ntmps10
            go_wp2_with (go_at_call 24; refine (resolve_any _ _ (by omega)).mono ?_; rintro e w' ⟨rfl, rfl⟩)
            go_ret2
            exact ⟨by simp [tagE, he, tStr], hB⟩
      · go_enter Tryd.func10, Tryd.ntmps10
        go_wp2_with fail
        go_ret2
        exact ⟨by simp [tagE, h2, h4, h6], hB⟩

def nodeK (k : Int) : Bool := decide (k = 2) || decide (k = 4) || decide (k = 6)
theorem node_any (k : Int) (a t x : ByteArray) (p : Bool) (w : World) :
    Calls Tryd.prog 44 #[.agg #[.int .i64 k, .string a, .string t, .string x, .bool p]] w
      fun e w' => e = .returned (.bool (nodeK k)) ∧ Below w.heap.size w w' := by
  have hB : Below w.heap.size w (w.alloc (.cells #[.int .i64 k, .string a, .string t, .string x, .bool p] 30)) := (Below.refl _ _).alloc (Nat.le_refl _) _
  go_enter Tryd.func44, Tryd.ntmps44
  go_wp2
  all_goals go_ret
  all_goals exact ⟨ret_bool (by simp [nodeK] <;> omega), (Below.refl _ _).alloc (Nat.le_refl _) _⟩

/-! ### lex.Name -/
def nameN (r : Nat) : Bool := (decide (97 ≤ r) && decide (r ≤ 122)) || (decide (65 ≤ r) && decide (r ≤ 90)) || (decide (48 ≤ r) && decide (r ≤ 57)) || decide (r = 45) || decide (r = 95)
theorem strangeN_at (w : World) : PredAt Tryd.prog 93 #[] encR (fun r => !nameN r) w := fun W r _ => by
  unfold FnGives encR
  go_enter Tryd.func93, Tryd.ntmps93
  go_wp2
  all_goals go_ret
  all_goals exact ⟨ret_bool (by simp [nameN] <;> omega), 0, rfl⟩
def strangeN (s : ByteArray) : Bool := decide (0 ≤ Lib.idxFunc (fun r => !nameN r) true s)
theorem strangeN_any (s : ByteArray) (w : World) : Calls Tryd.prog 84 #[.string s, .func (.func 93) #[] #[]] w fun e w' => e = .returned (.bool (strangeN s)) ∧ Below w.heap.size w w' :=
  Tryd.strings_ContainsFunc 93 #[] (enters_of Tryd.func93 (by kernel_rfl) rfl) _ s w (strangeN_at w)
def nameB (s : ByteArray) : Bool := decide (0 < s.size) && decide (s.size ≤ 40) && !strangeN s
theorem name_any (s : ByteArray) (w : World) : Calls Tryd.prog 65 #[.string s] w fun e w' => e = .returned (.bool (nameB s)) ∧ Below w.heap.size w w' := by
  by_cases h0 : 0 < s.size
  · have h0' := isEmpty_false h0
    by_cases h40 : s.size ≤ 40
    · go_enter Tryd.func65, Tryd.ntmps65
      go_wp2_with (go_at_call 84; refine (strangeN_any _ _).mono ?_; rintro e w' ⟨rfl, hb⟩)
      go_ret
      exact ⟨by simp [nameB, h0, h40], by assumption⟩
    · go_enter Tryd.func65, Tryd.ntmps65
      go_wp2_with fail
      go_ret
      exact ⟨by simp [nameB, h0, h40], Below.refl _ _⟩
  · have h0' := isEmpty_true h0
    go_enter Tryd.func65, Tryd.ntmps65
    go_wp2_with fail
    go_ret
    exact ⟨by simp [nameB, h0], Below.refl _ _⟩
end Go.Proofs.YthkkcbfemmpfmaaDoor
