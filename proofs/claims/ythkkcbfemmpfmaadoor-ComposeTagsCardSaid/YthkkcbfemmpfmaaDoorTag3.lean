import Derived.Test.YthkkcbfemmpfmaaDoorTag2
set_option linter.unusedSimpArgs false
set_option linter.unusedVariables false
namespace Go.Proofs.YthkkcbfemmpfmaaDoor
open Go.RowKit Go.Lib

def namedN (r : Nat) : Bool := (decide (97 ≤ r) && decide (r ≤ 122)) || (decide (65 ≤ r) && decide (r ≤ 90)) || (decide (48 ≤ r) && decide (r ≤ 57)) || decide (r = 45)
theorem ret_bool {a b : Bool} (h : (a = true) ↔ (b = true)) : Ending.returned (.bool a) = .returned (.bool b) := by rw [Bool.eq_iff_iff.mpr h]
theorem named_any (r : Nat) (w : World) : Calls Tryd.prog 83 #[.int .i32 r] w fun e w' => e = .returned (.bool (namedN r)) ∧ w = w' := by
  go_enter Tryd.func83, Tryd.ntmps83
  go_wp2
  all_goals go_ret
  all_goals exact ⟨ret_bool (by simp [namedN] <;> omega), rfl⟩
theorem strange_at (w : World) : PredAt Tryd.prog 82 #[] encR (fun r => !namedN r) w := fun W r _ => by
  unfold FnGives encR
  go_enter Tryd.func82, Tryd.ntmps82
  go_wp2_with (go_at_call 83; refine (named_any _ _).mono ?_; rintro e w' ⟨rfl, rfl⟩)
  go_ret
  exact ⟨rfl, 0, rfl⟩
def strange (s : ByteArray) : Bool := decide (0 ≤ Lib.idxFunc (fun r => !namedN r) true s)
theorem strange_any (s : ByteArray) (w : World) : Calls Tryd.prog 84 #[.string s, .func (.func 82) #[] #[]] w fun e w' => e = .returned (.bool (strange s)) ∧ Below w.heap.size w w' :=
  Tryd.strings_ContainsFunc 82 #[] (enters_of Tryd.func82 (by kernel_rfl) rfl) _ s w (strange_at w)

def ownB (s : ByteArray) : Bool := Lib.hasPrefix s.data.toList [33] && (decide (0 < (s.data.toList.drop 1).length) && decide ((s.data.toList.drop 1).length ≤ 40) && !strange (mk (s.data.toList.drop 1)))
theorem own_any (s : ByteArray) (w : World) : Calls Tryd.prog 51 #[.string s] w fun e w' => e = .returned (.bool (ownB s)) ∧ Below w.heap.size w w' := by
  cases hp : Lib.hasPrefix s.data.toList [33] with
  | false =>
    have hb : ownB s = false := by simp [ownB, hp]
    go_enter Tryd.func51, Tryd.ntmps51
    go_wp2_with (go_at_call 79; refine (cut_no _ _ _ (by exact hp)).mono ?_; rintro e w' ⟨rfl, rfl⟩)
    go_ret
    exact ⟨by simp [hb], Below.refl _ _⟩
  | true =>
    obtain ⟨t, ht⟩ : ∃ t, t = mk (s.data.toList.drop 1) := ⟨_, rfl⟩
    have hb : ownB s = (decide (0 < t.size) && decide (t.size ≤ 40) && !strange t) := by simp only [ownB, hp, ht, mk_size, Bool.true_and]
    have hcut : ∀ w, Calls Tryd.prog 79 #[.string s, .string ⟨#[33]⟩] w fun e w' => e = .returned (.tuple #[.string t, .bool true]) ∧ w = w' := by
      rw [ht]; exact fun w => cut_yes s ⟨#[33]⟩ w hp
    rw [hb]; clear hb ht hp
    have HC : Hid (∀ w, Calls Tryd.prog 79 #[.string s, .string ⟨#[33]⟩] w fun e w' => e = .returned (.tuple #[.string t, .bool true]) ∧ w = w') := hcut
    clear hcut
    by_cases h0 : 0 < t.size
    · have h0' := isEmpty_false h0
      by_cases h40 : t.size ≤ 40
      · go_enter Tryd.func51, Tryd.ntmps51
        go_wp2_with (first | (go_at_call 79; refine (HC.out _).mono ?_; rintro e w' ⟨rfl, rfl⟩) | (go_at_call 84; refine (strange_any _ _).mono ?_; rintro e w' ⟨rfl, hb⟩))
        all_goals go_ret
        all_goals exact ⟨by simp [h0, h40], by assumption⟩
      · go_enter Tryd.func51, Tryd.ntmps51
        go_wp2_with (go_at_call 79; refine (HC.out _).mono ?_; rintro e w' ⟨rfl, rfl⟩)
        all_goals go_ret
        all_goals exact ⟨by simp [h0, h40], Below.refl _ _⟩
    · have h0' := isEmpty_true h0
      go_enter Tryd.func51, Tryd.ntmps51
      go_wp2_with (go_at_call 79; refine (HC.out _).mono ?_; rintro e w' ⟨rfl, rfl⟩)
      all_goals go_ret
      all_goals exact ⟨by simp [h0], Below.refl _ _⟩

def rightB (s : ByteArray) : Bool := coreB s || ownB s
theorem right_any (s : ByteArray) (w : World) : Calls Tryd.prog 45 #[.string s] w fun e w' => e = .returned (.bool (rightB s)) ∧ Below w.heap.size w w' := by
  cases hc : coreB s
  · go_enter Tryd.func45, Tryd.ntmps45
    go_wp2_with (first | (go_at_call 46; refine (core_any _ _).mono ?_; rintro e w' ⟨rfl, rfl⟩) | (go_at_call 51; refine (own_any _ _).mono ?_; rintro e w' ⟨rfl, hb⟩))
    all_goals go_ret
    all_goals exact ⟨by simp [rightB, hc], by assumption⟩
  · go_enter Tryd.func45, Tryd.ntmps45
    go_wp2_with (first | (go_at_call 46; refine (core_any _ _).mono ?_; rintro e w' ⟨rfl, rfl⟩) | (go_at_call 51; refine (own_any _ _).mono ?_; rintro e w' ⟨rfl, hb⟩))
    all_goals go_ret
    all_goals exact ⟨by simp [rightB, hc], Below.refl _ _⟩

def fitsB (t s : ByteArray) : Bool :=
  if plainB t then (resolveB s).toList == t.toList || (t.toList == [102, 108, 111, 97, 116] && (resolveB s).toList == [105, 110, 116]) else t.toList == [115, 116, 114] || ownB t
theorem fits_any (t s : ByteArray) (w : World) (hs : s.size ≤ 4611686018427387903) :
    Calls Tryd.prog 25 #[.string t, .string s] w fun e w' => e = .returned (.bool (fitsB t s)) ∧ Below w.heap.size w w' := by
  cases hp : plainB t
  · cases h2 : (t.toList == [115, 116, 114])
    · go_enter Tryd.func25, Tryd.ntmps25
      go_wp2_with (first | (go_at_call 50; refine (plain_any _ _).mono ?_; rintro e w' ⟨rfl, rfl⟩) | (go_at_call 51; refine (own_any _ _).mono ?_; rintro e w' ⟨rfl, hb⟩))
      all_goals go_ret
      all_goals exact ⟨by simp [fitsB, hp, h2], by assumption⟩
    · go_enter Tryd.func25, Tryd.ntmps25
      go_wp2_with (first | (go_at_call 50; refine (plain_any _ _).mono ?_; rintro e w' ⟨rfl, rfl⟩) | (go_at_call 51; refine (own_any _ _).mono ?_; rintro e w' ⟨rfl, hb⟩))
      all_goals go_ret
      all_goals exact ⟨by simp [fitsB, hp, h2], Below.refl _ _⟩
  · obtain ⟨r, hr⟩ : ∃ r, r = resolveB s := ⟨_, rfl⟩
    have hres : ∀ w, Calls Tryd.prog 24 #[.string s] w fun e w' => e = .returned (.string r) ∧ w = w' := by rw [hr]; exact fun w => resolve_any s w hs
    have hf : fitsB t s = (r.toList == t.toList || (t.toList == [102, 108, 111, 97, 116] && r.toList == [105, 110, 116])) := by simp [fitsB, hp, hr]
    rw [hf]; clear hf hr
    have HR : Hid (∀ w, Calls Tryd.prog 24 #[.string s] w fun e w' => e = .returned (.string r) ∧ w = w') := hres
    clear hres
    cases h1 : (r.toList == t.toList) <;> cases h2 : (t.toList == [102, 108, 111, 97, 116]) <;> cases h3 : (r.toList == [105, 110, 116])
    all_goals
      go_enter Tryd.func25, Tryd.ntmps25
      go_wp2_with (first | (go_at_call 50; refine (plain_any _ _).mono ?_; rintro e w' ⟨rfl, rfl⟩) | (go_at_call 24; refine (HR.out _).mono ?_; rintro e w' ⟨rfl, rfl⟩))
      go_ret
      exact ⟨rfl, Below.refl _ _⟩

def tagTwo (t plain : ByteArray) : ByteArray × Int := if t.toList.isEmpty || t.toList == plain.toList then (plain, 0) else if rightB t && !coreB t then (t, 0) else (⟨#[]⟩, 14)
theorem cnamed_any (t p : ByteArray) (w : World) :
    Calls Tryd.prog 23 #[.string t, .string p] w fun e w' => e = .returned (.tuple #[.string (tagTwo t p).1, .int .i64 (tagTwo t p).2]) ∧ Below w.heap.size w w' := by
  cases h1 : t.toList.isEmpty
  · cases h2 : (t.toList == p.toList)
    · cases h3 : rightB t <;> cases h4 : coreB t
      all_goals
        go_enter Tryd.func23, Tryd.ntmps23
        go_wp2_with (first | (go_at_call 46; refine (core_any _ _).mono ?_; rintro e w' ⟨rfl, rfl⟩) | (go_at_call 45; refine (right_any _ _).mono ?_; rintro e w' ⟨rfl, hb⟩))
        go_ret2
        exact ⟨by simp [tagTwo, *], by assumption⟩
    · go_enter Tryd.func23, Tryd.ntmps23
      go_wp2_with fail
      go_ret2
      exact ⟨by simp [tagTwo, *], Below.refl _ _⟩
  · go_enter Tryd.func23, Tryd.ntmps23
    go_wp2_with fail
    go_ret2
    exact ⟨by simp [tagTwo, *], Below.refl _ _⟩
end Go.Proofs.YthkkcbfemmpfmaaDoor
