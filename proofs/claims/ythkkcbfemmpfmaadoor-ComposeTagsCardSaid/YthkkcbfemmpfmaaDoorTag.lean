import Derived.Test.YthkkcbfemmpfmaaDoorShelf
import Derived.WalkKit
import Derived.WalkSpells
import Derived.WalkLawsBesides
import Derived.LoopTactic
import Derived.Outline
import Derived.Lib.Strings
import Derived.Below
set_option linter.unusedSimpArgs false
set_option linter.unusedVariables false
namespace Go.Proofs.YthkkcbfemmpfmaaDoor
open Go.RowKit

/-! ### tag: what the code computes, and its walks -/
theorem isEmpty_of (s : ByteArray) : s.toList.isEmpty = decide (s.size = 0) := by
  rw [ByteArray.toList_eq, Lib.size_eq]
  generalize s.data.toList = l
  cases l <;> simp
theorem isEmpty_false {s : ByteArray} (h : 0 < s.size) : s.toList.isEmpty = false := by
  rw [isEmpty_of]; exact decide_eq_false (by omega)
theorem isEmpty_true {s : ByteArray} (h : ¬ 0 < s.size) : s.toList.isEmpty = true := by
  rw [isEmpty_of]; exact decide_eq_true (by omega)
theorem getD_byte (s : ByteArray) (k : Nat) (h : k < s.size) : s.data.toList.drop k = s[k] :: s.data.toList.drop (k + 1) := by
  rw [List.drop_eq_getElem_cons (by rw [← Lib.size_eq]; exact h)]
  rfl
theorem bytes_ext {a b : ByteArray} (h : a.toList = b.toList) : a = b := by
  rw [ByteArray.toList_eq, ByteArray.toList_eq] at h
  cases a; cases b; simp at h; simp [h]

def plainB (s : ByteArray) : Bool := s.toList == [110, 117, 108, 108] || s.toList == [98, 111, 111, 108] || s.toList == [105, 110, 116] || s.toList == [102, 108, 111, 97, 116]
theorem plain_any (s : ByteArray) (w : World) : Calls Tryd.prog 50 #[.string s] w fun e w' => e = .returned (.bool (plainB s)) ∧ w = w' := by
  go_enter Tryd.func50, Tryd.ntmps50
  go_wp2
  all_goals go_ret
  all_goals simp_all [plainB]

def coreB (s : ByteArray) : Bool := s.toList == [115, 101, 113] || s.toList == [109, 97, 112] || s.toList == [115, 116, 114] || plainB s
theorem core_any (s : ByteArray) (w : World) : Calls Tryd.prog 46 #[.string s] w fun e w' => e = .returned (.bool (coreB s)) ∧ w = w' := by
  go_enter Tryd.func46, Tryd.ntmps46
  go_wp2_with (go_at_call 50; refine (plain_any _ _).mono ?_; rintro e w' ⟨rfl, rfl⟩)
  all_goals go_ret
  all_goals simp_all [coreB]

def isSign (n : Int) : Bool := n == 43 || n == 45
def signB (s : ByteArray) : ByteArray := if h : 0 < s.size then (if isSign (s[0].toNat : Int) then s.extract 1 s.size else s) else s
theorem sign_any (s : ByteArray) (w : World) : Calls Tryd.prog 47 #[.string s] w fun e w' => e = .returned (.string (signB s)) ∧ w = w' := by
  by_cases h : 0 < s.size
  · have h0 := isEmpty_false h
    go_enter Tryd.func47, Tryd.ntmps47
    go_wp2
    all_goals go_ret
    all_goals simp_all [signB, isSign]
  · have h0 := isEmpty_true h
    go_enter Tryd.func47, Tryd.ntmps47
    go_wp2
    all_goals go_ret
    all_goals simp_all [signB]

def valI (n : Int) : Int := if 97 ≤ n ∧ n ≤ 102 then n - 87 else if 65 ≤ n ∧ n ≤ 70 then n - 55 else if 48 ≤ n ∧ n ≤ 57 then n - 48 else 16
theorem valI_range (n : Int) : 0 ≤ valI n ∧ valI n ≤ 16 := by unfold valI; omega
theorem value_any (n : Int) (w : World) (h0 : 0 ≤ n) (h1 : n ≤ 255) : Calls Tryd.prog 96 #[.int .u8 n] w fun e w' => e = .returned (.int .i64 (valI n)) ∧ w = w' := by
  go_enter Tryd.func96, Tryd.ntmps96
  go_wp2
  all_goals go_ret
  all_goals (refine ⟨?_, rfl⟩; simp [valI]; omega)

def run (b : Int) : List UInt8 → Nat
  | [] => 0
  | c :: r => if valI c.toNat < b then run b r + 1 else 0
theorem run_le (b : Int) (l : List UInt8) : run b l ≤ l.length := by
  induction l with
  | nil => simp [run]
  | cons c r ih => simp only [run, List.length_cons]; split <;> omega

theorem digits_any (s : ByteArray) (b : Int) (w : World) (hs : s.size ≤ 9223372036854775807) :
    Calls Tryd.prog 81 #[.string s, .int .i64 b] w fun e w' => e = .returned (.tuple #[.string (s.extract (run b s.data.toList) s.size), .int .i64 (run b s.data.toList)]) ∧ w = w' := by
  go_enter Tryd.func81, Tryd.ntmps81
  go_wp2
  go_loop [5] (fun i => ∃ k : Nat, k ≤ s.size ∧ i = .int .i64 k ∧ Hid (run b s.data.toList = k + run b (s.data.toList.drop k))) (fun i => s.size - (intOf i).toNat)
  case atStart => exact ⟨0, Nat.zero_le _, rfl, by simp [Hid]⟩
  case round =>
    obtain ⟨k, hk, rfl, hr⟩ := hrel
    by_cases hlt : k < s.size
    · have hd := getD_byte s k hlt
      by_cases hv : valI (s[k].toNat : Int) < b
      · have hr' : Hid (run b s.data.toList = (k + 1 : Nat) + run b (s.data.toList.drop (k + 1))) := by
          have h := hr.out; rw [hd, run, if_pos hv] at h; show _ = _; omega
        clear hr hd
        go_wp2_with (go_at_call 96; refine (value_any _ _ (by omega) (by have := s[k].toNat_lt; omega)).mono ?_; rintro e w' ⟨rfl, rfl⟩)
        go_round
        case rel => exact ⟨k + 1, by omega, by go_num, hr'⟩
        case measure => simp [intOf]; omega
      · have hr' : Hid (run b s.data.toList = k) := by
          have h := hr.out; rw [hd, run, if_neg hv] at h; exact h
        clear hr hd
        go_wp2_with (go_at_call 96; refine (value_any _ _ (by omega) (by have := s[k].toNat_lt; omega)).mono ?_; rintro e w' ⟨rfl, rfl⟩)
        go_ret2
        rw [hr'.out]; exact ⟨rfl, rfl⟩
    · have hr' : Hid (run b s.data.toList = k) := by
        have h := hr.out; rw [List.drop_of_length_le (by rw [← Lib.size_eq]; omega)] at h; exact h
      clear hr
      go_wp2_with fail
      go_ret2
      rw [hr'.out]; exact ⟨rfl, rfl⟩

/-- bytes as a text -/
def mk (l : List UInt8) : ByteArray := ⟨l.toArray⟩
theorem mk_data (l : List UInt8) : (mk l).data.toList = l := by simp [mk]
theorem mk_toList (l : List UInt8) : (mk l).toList = l := by rw [ByteArray.toList_eq, mk_data]
theorem mk_size (l : List UInt8) : (mk l).size = l.length := by rw [Lib.size_eq, mk_data]
theorem mk_of (s : ByteArray) : mk s.data.toList = s := Lib.mk_data s
theorem extract_mk' (s : ByteArray) (k : Nat) : s.extract k s.size = mk (s.data.toList.drop k) := by
  rw [Lib.extract_eq, mk]
  congr 2
  rw [List.take_of_length_le]; simp [← Lib.size_eq]

def allL (b : Int) (l : List UInt8) : Bool := decide (run b l = l.length) && decide (0 < l.length)
def allB (b : Int) (s : ByteArray) : Bool := allL b s.data.toList
theorem all_any (s : ByteArray) (b : Int) (w : World) (hs : s.size ≤ 9223372036854775807) :
    Calls Tryd.prog 80 #[.string s, .int .i64 b] w fun e w' => e = .returned (.bool (allB b s)) ∧ w = w' := by
  have hr := run_le b s.data.toList
  rw [← Lib.size_eq] at hr
  have e1 : ((s.extract (run b s.data.toList) s.size).toList == []) = decide (run b s.data.toList = s.size) := by
    rw [Lib.extract_toList, Bool.eq_iff_iff]
    simp only [beq_iff_eq, decide_eq_true_eq, ← List.length_eq_zero_iff, List.length_take, List.length_drop, ← Lib.size_eq]
    omega
  go_enter Tryd.func80, Tryd.ntmps80
  go_wp2_with (go_at_call 81; refine (digits_any _ _ _ hs).mono ?_; rintro e w' ⟨rfl, rfl⟩)
  all_goals go_ret
  all_goals simp_all [allB, allL, ← Lib.size_eq]

/-! ### strings.CutPrefix, found and not found -/
theorem cut_yes (s p : ByteArray) (w : World) (h : Lib.hasPrefix s.data.toList p.data.toList = true) :
    Calls Tryd.prog 79 #[.string s, .string p] w fun e w' => e = .returned (.tuple #[.string (mk (s.data.toList.drop p.data.toList.length)), .bool true]) ∧ w = w' :=
  (Tryd.strings_CutPrefix s p w).mono fun _ _ ⟨he, hw⟩ => ⟨by rw [he, Lib.trimPrefix, h, if_pos rfl]; rfl, hw.symm⟩
theorem cut_no (s p : ByteArray) (w : World) (h : Lib.hasPrefix s.data.toList p.data.toList = false) :
    Calls Tryd.prog 79 #[.string s, .string p] w fun e w' => e = .returned (.tuple #[.string s, .bool false]) ∧ w = w' :=
  (Tryd.strings_CutPrefix s p w).mono fun _ _ ⟨he, hw⟩ => ⟨by rw [he, Lib.trimPrefix, h, if_neg (by simp), Lib.mk_data], hw.symm⟩

def pre0o (s : ByteArray) : Bool := Lib.hasPrefix s.data.toList [48, 111]
def pre0x (s : ByteArray) : Bool := Lib.hasPrefix s.data.toList [48, 120]
def wholeB (s : ByteArray) : Bool :=
  if pre0o s then allB 8 (mk (s.data.toList.drop 2)) else if pre0x s then allB 16 (mk (s.data.toList.drop 2)) else allB 10 (signB s)
theorem signB_size (s : ByteArray) : (signB s).size ≤ s.size := by
  unfold signB; split
  · split
    · rw [extract_mk', mk_size, List.length_drop, ← Lib.size_eq]; omega
    · exact Nat.le_refl _
  · exact Nat.le_refl _
theorem drop_size (s : ByteArray) (k : Nat) : (mk (s.data.toList.drop k)).size ≤ s.size := by
  rw [mk_size, List.length_drop, ← Lib.size_eq]; omega
theorem whole_any (s : ByteArray) (w : World) (hs : s.size ≤ 9223372036854775807) :
    Calls Tryd.prog 48 #[.string s] w fun e w' => e = .returned (.bool (wholeB s)) ∧ w = w' := by
  have h1 := drop_size s 2
  have h2 := signB_size s
  by_cases ho : pre0o s = true
  · have hw : wholeB s = allB 8 (mk (s.data.toList.drop 2)) := by simp [wholeB, ho]
    rw [hw]; clear hw
    go_enter Tryd.func48, Tryd.ntmps48
    go_wp2_with (first | (go_at_call 79; refine (cut_yes _ _ _ (by exact ho)).mono ?_; rintro e w' ⟨rfl, rfl⟩) | (go_at_call 80; refine (all_any _ _ _ (by omega)).mono ?_; rintro e w' ⟨rfl, rfl⟩))
    all_goals go_ret
    all_goals exact ⟨rfl, rfl⟩
  · rw [Bool.not_eq_true] at ho
    by_cases hx : pre0x s = true
    · have hw : wholeB s = allB 16 (mk (s.data.toList.drop 2)) := by simp [wholeB, ho, hx]
      rw [hw]; clear hw
      go_enter Tryd.func48, Tryd.ntmps48
      go_wp2_with fail
      refine (cut_no _ _ _ (by exact ho)).mono ?_; rintro e w' ⟨rfl, rfl⟩
      go_wp2_with fail
      refine (cut_yes _ _ _ (by exact hx)).mono ?_; rintro e w' ⟨rfl, rfl⟩
      go_wp2_with fail
      refine (all_any _ _ _ (by omega)).mono ?_; rintro e w' ⟨rfl, rfl⟩
      go_wp2_with fail
      go_ret
      exact ⟨rfl, rfl⟩
    · rw [Bool.not_eq_true] at hx
      have hw : wholeB s = allB 10 (signB s) := by simp [wholeB, ho, hx]
      rw [hw]; clear hw
      go_enter Tryd.func48, Tryd.ntmps48
      go_wp2_with fail
      refine (cut_no _ _ _ (by exact ho)).mono ?_; rintro e w' ⟨rfl, rfl⟩
      go_wp2_with fail
      refine (cut_no _ _ _ (by exact hx)).mono ?_; rintro e w' ⟨rfl, rfl⟩
      go_wp2_with fail
      refine (sign_any _ _).mono ?_; rintro e w' ⟨rfl, rfl⟩
      go_wp2_with fail
      refine (all_any _ _ _ (by omega)).mono ?_; rintro e w' ⟨rfl, rfl⟩
      go_wp2_with fail
      go_ret
      exact ⟨rfl, rfl⟩

def expB (s : ByteArray) : Bool := if h : 0 < s.size then (((s[0].toNat : Int) == 101 || (s[0].toNat : Int) == 69) && allB 10 (signB (mk (s.data.toList.drop 1)))) else true
/-- what stands behind the digits: a point and digits, or nothing: the rest, and how many digits -/
def behindB (s : ByteArray) : ByteArray × Nat :=
  if Lib.hasPrefix s.data.toList [46] then (mk ((s.data.toList.drop 1).drop (run 10 (s.data.toList.drop 1))), run 10 (s.data.toList.drop 1)) else (s, 0)
def realB (s : ByteArray) : Bool :=
  if (run 10 (signB s).data.toList : Int) + (behindB (mk ((signB s).data.toList.drop (run 10 (signB s).data.toList)))).2 = 0 then false
  else expB (behindB (mk ((signB s).data.toList.drop (run 10 (signB s).data.toList)))).1
theorem behindB_size (s : ByteArray) : (behindB s).1.size ≤ s.size ∧ (behindB s).2 ≤ s.size := by
  unfold behindB
  have := run_le 10 (s.data.toList.drop 1)
  have hl : s.data.toList.length = s.size := (Lib.size_eq s).symm
  simp only [List.length_drop] at this
  split
  · simp only [mk_size, List.length_drop]; omega
  · simp
theorem digits_mk (s : ByteArray) (b : Int) (w : World) (hs : s.size ≤ 9223372036854775807) :
    Calls Tryd.prog 81 #[.string s, .int .i64 b] w fun e w' => e = .returned (.tuple #[.string (mk (s.data.toList.drop (run b s.data.toList))), .int .i64 (run b s.data.toList)]) ∧ w = w' := by
  rw [← extract_mk']; exact digits_any s b w hs
theorem real_any (s : ByteArray) (w : World) (hs : s.size ≤ 4611686018427387903) :
    Calls Tryd.prog 49 #[.string s] w fun e w' => e = .returned (.bool (realB s)) ∧ w = w' := by
  have h2 := signB_size s
  have h4 := run_le 10 (signB s).data.toList
  rw [← Lib.size_eq] at h4
  obtain ⟨r, hr⟩ : ∃ r, r = mk ((signB s).data.toList.drop (run 10 (signB s).data.toList)) := ⟨_, rfl⟩
  obtain ⟨n, hn⟩ : ∃ n, n = run 10 (signB s).data.toList := ⟨_, rfl⟩
  have h3 : r.size ≤ s.size := by rw [hr]; exact Nat.le_trans (drop_size _ _) h2
  have hb := behindB_size r
  have hnr : realB s = if (n : Int) + ((behindB r).2 : Nat) = 0 then false else expB (behindB r).1 := by unfold realB; rw [hn, hr]
  have hd : ∀ w, Calls Tryd.prog 81 #[.string (signB s), .int .i64 10] w fun e w' => e = .returned (.tuple #[.string r, .int .i64 n]) ∧ w = w' := by
    intro w; rw [hr, hn]; exact digits_mk _ _ _ (by omega)
  rw [hnr]; clear hnr
  rw [← hn] at h4
  clear hr hn
  have HD : Hid (∀ w, Calls Tryd.prog 81 #[.string (signB s), .int .i64 10] w fun e w' => e = .returned (.tuple #[.string r, .int .i64 n]) ∧ w = w') := hd
  clear hd
  obtain ⟨r2, n2, hr2, hn2, hbe, hwalk⟩ : ∃ (r2 : ByteArray) (n2 : Nat), r2.size ≤ r.size ∧ n2 ≤ r.size ∧ behindB r = (r2, n2) ∧
      ((Lib.hasPrefix r.data.toList [46] = false ∧ r2 = r ∧ n2 = 0) ∨ (Lib.hasPrefix r.data.toList [46] = true ∧ Hid (∀ w, Calls Tryd.prog 81 #[.string (mk (r.data.toList.drop 1)), .int .i64 10] w fun e w' => e = .returned (.tuple #[.string r2, .int .i64 n2]) ∧ w = w'))) := by
    refine ⟨(behindB r).1, (behindB r).2, hb.1, hb.2, rfl, ?_⟩
    cases hp : Lib.hasPrefix r.data.toList [46] with
    | false => exact .inl ⟨rfl, by simp [behindB, hp], by simp [behindB, hp]⟩
    | true =>
      refine .inr ⟨rfl, ?_⟩
      have := drop_size r 1
      have := digits_mk (mk (r.data.toList.drop 1)) 10
      intro w
      simp only [behindB, hp, if_true]
      rw [mk_data] at this
      exact this w (by omega)
  rw [hbe]; clear hb hbe
  have tail : ∀ (h : 0 < r2.size), (r2.extract 1 r2.size) = mk (r2.data.toList.drop 1) := fun _ => extract_mk' _ _
  have hz2 : (signB (mk r2.data.toList.tail)).size ≤ s.size := by
    have := signB_size (mk (r2.data.toList.drop 1)); have := drop_size r2 1; simp only [List.drop_one] at *; omega
  rcases hwalk with ⟨hp, rfl, rfl⟩ | ⟨hp, HD2⟩
  · by_cases hz : n = 0
    · subst hz
      go_enter Tryd.func49, Tryd.ntmps49
      go_wp2_with (first | (go_at_call 47; refine (sign_any _ _).mono ?_; rintro e w' ⟨rfl, rfl⟩) | (go_at_call 81; with_reducible refine (HD.out _).mono ?_; rintro e w' ⟨rfl, rfl⟩) | (go_at_call 79; refine (cut_no _ _ _ (by exact hp)).mono ?_; rintro e w' ⟨rfl, rfl⟩) | (go_at_call 80; refine (all_any _ _ _ (by omega)).mono ?_; rintro e w' ⟨rfl, rfl⟩))
      go_ret
      simp
    · have hz' : ((n : Int) == 0) = false := by simpa using hz
      by_cases he : 0 < r2.size
      · have he' := isEmpty_false he
        go_enter Tryd.func49, Tryd.ntmps49
        go_wp2_with (first | (go_at_call 47; refine (sign_any _ _).mono ?_; rintro e w' ⟨rfl, rfl⟩) | (go_at_call 81; with_reducible refine (HD.out _).mono ?_; rintro e w' ⟨rfl, rfl⟩) | (go_at_call 79; refine (cut_no _ _ _ (by exact hp)).mono ?_; rintro e w' ⟨rfl, rfl⟩) | (go_at_call 80; refine (all_any _ _ _ (by omega)).mono ?_; rintro e w' ⟨rfl, rfl⟩))
        all_goals go_ret
        all_goals simp_all [expB]
      · have he' := isEmpty_true he
        go_enter Tryd.func49, Tryd.ntmps49
        go_wp2_with (first | (go_at_call 47; refine (sign_any _ _).mono ?_; rintro e w' ⟨rfl, rfl⟩) | (go_at_call 81; with_reducible refine (HD.out _).mono ?_; rintro e w' ⟨rfl, rfl⟩) | (go_at_call 79; refine (cut_no _ _ _ (by exact hp)).mono ?_; rintro e w' ⟨rfl, rfl⟩) | (go_at_call 80; refine (all_any _ _ _ (by omega)).mono ?_; rintro e w' ⟨rfl, rfl⟩))
        all_goals go_ret
        all_goals simp_all [expB]
  · rw [List.drop_one] at HD2
    by_cases hz : n = 0 ∧ n2 = 0
    · obtain ⟨rfl, rfl⟩ := hz
      go_enter Tryd.func49, Tryd.ntmps49
      go_wp2_with (first | (go_at_call 47; refine (sign_any _ _).mono ?_; rintro e w' ⟨rfl, rfl⟩) | (go_at_call 81; with_reducible refine (HD.out _).mono ?_; rintro e w' ⟨rfl, rfl⟩) | (go_at_call 81; with_reducible refine (HD2.out _).mono ?_; rintro e w' ⟨rfl, rfl⟩) | (go_at_call 79; refine (cut_yes _ _ _ (by exact hp)).mono ?_; rintro e w' ⟨rfl, rfl⟩) | (go_at_call 80; refine (all_any _ _ _ (by omega)).mono ?_; rintro e w' ⟨rfl, rfl⟩))
      go_ret
      simp
    · have hz' : ((n : Int) + n2 == 0) = false := by simp; omega
      by_cases he : 0 < r2.size
      · have he' := isEmpty_false he
        go_enter Tryd.func49, Tryd.ntmps49
        go_wp2_with (first | (go_at_call 47; refine (sign_any _ _).mono ?_; rintro e w' ⟨rfl, rfl⟩) | (go_at_call 81; with_reducible refine (HD.out _).mono ?_; rintro e w' ⟨rfl, rfl⟩) | (go_at_call 81; with_reducible refine (HD2.out _).mono ?_; rintro e w' ⟨rfl, rfl⟩) | (go_at_call 79; refine (cut_yes _ _ _ (by exact hp)).mono ?_; rintro e w' ⟨rfl, rfl⟩) | (go_at_call 80; refine (all_any _ _ _ (by omega)).mono ?_; rintro e w' ⟨rfl, rfl⟩))
        all_goals go_ret
        all_goals simp_all [expB]
      · have he' := isEmpty_true he
        go_enter Tryd.func49, Tryd.ntmps49
        go_wp2_with (first | (go_at_call 47; refine (sign_any _ _).mono ?_; rintro e w' ⟨rfl, rfl⟩) | (go_at_call 81; with_reducible refine (HD.out _).mono ?_; rintro e w' ⟨rfl, rfl⟩) | (go_at_call 81; with_reducible refine (HD2.out _).mono ?_; rintro e w' ⟨rfl, rfl⟩) | (go_at_call 79; refine (cut_yes _ _ _ (by exact hp)).mono ?_; rintro e w' ⟨rfl, rfl⟩) | (go_at_call 80; refine (all_any _ _ _ (by omega)).mono ?_; rintro e w' ⟨rfl, rfl⟩))
        all_goals go_ret
        all_goals simp_all [expB]
end Go.Proofs.YthkkcbfemmpfmaaDoor
