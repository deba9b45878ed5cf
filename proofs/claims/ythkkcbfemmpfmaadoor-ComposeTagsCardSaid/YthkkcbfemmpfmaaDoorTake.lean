import Derived.Test.YthkkcbfemmpfmaaDoorNest
set_option linter.unusedSimpArgs false
set_option linter.unusedVariables false
namespace Go.Proofs.YthkkcbfemmpfmaaDoor
open Go.RowKit Go.Lib

def isColl (k : Int) : Bool := k == 2 || k == 4
def nestTake (st : List (Int × Int)) (k : Int) : Bool × List (Int × Int) :=
  if k = 0 then (st.isEmpty, (0, 0) :: st)
  else if k = 1 then popM st 0 (fun m => m == 1)
  else if k = 3 then popM st 2 (fun _ => true)
  else if k = 5 then popM st 4 (fun m => m % 2 == 0)
  else match st with
    | [] => (false, if isColl k then [(k, 0)] else [])
    | x :: r => (true, if isColl k then (k, 0) :: (x.1, x.2 + 1) :: r else (x.1, x.2 + 1) :: r)

set_option maxHeartbeats 1000000 in
set_option maxRecDepth 100000 in
theorem take_nil (base P : Nat) (k : Int) (a t x : ByteArray) (p : Bool) (w : World) (hr : NestRep base w P []) (hb : base ≤ w.heap.size) :
    Calls Tryd.prog 36 #[.pointer (some ⟨P, 0, none⟩), .agg #[.int .i64 k, .string a, .string t, .string x, .bool p]] w
      fun e w' => e = .returned (.bool (nestTake [] k).1) ∧ NestRep base w' P (nestTake [] k).2 ∧ Below base w w' := by
  have hB : Below w.heap.size w (w.alloc (.cells #[.int .i64 k, .string a, .string t, .string x, .bool p] 30)) := (Below.refl _ _).alloc (Nat.le_refl _) _
  obtain ⟨A, c, hc, hlt⟩ : ∃ (A : Option Addr) (c : Nat), w.cell? ⟨P, 0, none⟩ = some (.slice A 0 c) ∧ P < w.heap.size := by
    obtain ⟨v, h1, h2, h3⟩ := hr
    rcases own_forms h3 with ⟨rfl, _⟩ | ⟨g, cap, rfl, _⟩
    · exact ⟨_, _, h1.cell (j := 0) rfl, h1.lt⟩
    · exact ⟨_, _, h1.cell (j := 0) rfl, h1.lt⟩
  have HC : Hid (∀ W, Below w.heap.size w W → W.cell? ⟨P, 0, none⟩ = some (.slice A 0 c)) := fun W hW => by rw [hW.cell (p := ⟨P, 0, none⟩) hlt]; exact hc
  have HR := hid' hr
  clear hr hc
  by_cases h0 : k = 0
  · subst h0
    go_enter Tryd.func36, Tryd.ntmps36
    go_wp2_with (first | (go_at_call 66; refine (last_nil P c A _ (HC.out _ hB)).mono ?_; rintro e w' ⟨rfl, rfl⟩; have hB := hB.alloc hB.size (.cells #[.int .i64 (-1), .int .i64 0] 93)) | (go_at_call 67; refine (push_any base P [] 0 _ (HR.out.below hB) (by simp) (Nat.le_trans hb hB.size)).mono ?_; rintro e w' ⟨rfl, hr1, hb1⟩; have hB' := (hB.mono hb).trans hb1))
    go_ret
    exact ⟨rfl, hr1, hB'⟩
  by_cases h1 : k = 1
  · subst h1
    go_enter Tryd.func36, Tryd.ntmps36
    go_wp2_with (first | (go_at_call 66; refine (last_nil P c A _ (HC.out _ hB)).mono ?_; rintro e w' ⟨rfl, rfl⟩; have hB := hB.alloc hB.size (.cells #[.int .i64 (-1), .int .i64 0] 93)) | (go_at_call 68; refine (popEnd_any base P [] _ (HR.out.below hB) (by simp) (Nat.le_trans hb hB.size) (by simp)).mono ?_; rintro e w' ⟨rfl, hr1, hb1⟩; have hB' := (hB.mono hb).trans hb1))
    go_ret
    exact ⟨rfl, hr1, hB'⟩
  by_cases h3 : k = 3
  · subst h3
    go_enter Tryd.func36, Tryd.ntmps36
    go_wp2_with (first | (go_at_call 66; refine (last_nil P c A _ (HC.out _ hB)).mono ?_; rintro e w' ⟨rfl, rfl⟩; have hB := hB.alloc hB.size (.cells #[.int .i64 (-1), .int .i64 0] 93)) | (go_at_call 68; refine (popSeq_any base P [] _ (HR.out.below hB) (by simp) (Nat.le_trans hb hB.size) (by simp)).mono ?_; rintro e w' ⟨rfl, hr1, hb1⟩; have hB' := (hB.mono hb).trans hb1))
    go_ret
    exact ⟨rfl, hr1, hB'⟩
  by_cases h5 : k = 5
  · subst h5
    go_enter Tryd.func36, Tryd.ntmps36
    go_wp2_with (first | (go_at_call 66; refine (last_nil P c A _ (HC.out _ hB)).mono ?_; rintro e w' ⟨rfl, rfl⟩; have hB := hB.alloc hB.size (.cells #[.int .i64 (-1), .int .i64 0] 93)) | (go_at_call 68; refine (popMap_any base P [] _ (HR.out.below hB) (by simp) (Nat.le_trans hb hB.size) (by simp)).mono ?_; rintro e w' ⟨rfl, hr1, hb1⟩; have hB' := (hB.mono hb).trans hb1))
    go_ret
    exact ⟨rfl, hr1, hB'⟩
  have k0 : (k == 0) = false := by simp [h0]
  have k1 : (k == 1) = false := by simp [h1]
  have k3 : (k == 3) = false := by simp [h3]
  have k5 : (k == 5) = false := by simp [h5]
  have ht : ∀ b, isColl k = b → nestTake [] k = (false, if b then [(k, 0)] else []) := by intro b hb; simp [nestTake, h0, h1, h3, h5, hb]
  cases h2 : (k == 2)
  · cases h4 : (k == 4)
    · rw [ht false (by simp [isColl, h2, h4])]
      clear ht
      simp only [Bool.false_eq_true, if_false]
      go_enter Tryd.func36, Tryd.ntmps36
      go_wp2_with (first | (go_at_call 66; refine (last_nil P c A _ (HC.out _ hB)).mono ?_; rintro e w' ⟨rfl, rfl⟩; have hB := hB.alloc hB.size (.cells #[.int .i64 (-1), .int .i64 0] 93)))
      go_ret
      exact ⟨rfl, HR.out.below (Below.alloc (Below.alloc (Below.alloc (Below.refl _ _) (Nat.le_refl _) _) (by simp) _) (by simp; omega) _), (Below.alloc (Below.alloc (Below.alloc (Below.refl _ _) (Nat.le_refl _) _) (by simp) _) (by simp; omega) _).mono hb⟩
    · rw [ht true (by simp [isColl, h2, h4])]
      clear ht
      simp only [if_true]
      go_enter Tryd.func36, Tryd.ntmps36
      go_wp2_with (first | (go_at_call 66; refine (last_nil P c A _ (HC.out _ hB)).mono ?_; rintro e w' ⟨rfl, rfl⟩; have hB := hB.alloc hB.size (.cells #[.int .i64 (-1), .int .i64 0] 93)) | (go_at_call 67; refine (push_any base P [] k _ (HR.out.below (by exact Below.alloc (Below.alloc (Below.alloc (Below.refl _ _) (Nat.le_refl _) _) (by simp) _) (by simp; omega) _)) (by simp) (by simp; omega)).mono ?_; rintro e w' ⟨rfl, hr1, hb1⟩))
      go_ret
      exact ⟨rfl, hr1, ((by exact Below.alloc (Below.alloc (Below.alloc (Below.refl _ _) (Nat.le_refl _) _) (by simp) _) (by simp; omega) _ : Below w.heap.size w _).mono hb).trans hb1⟩
  · rw [ht true (by simp [isColl, h2])]
    clear ht
    simp only [if_true]
    go_enter Tryd.func36, Tryd.ntmps36
    go_wp2_with (first | (go_at_call 66; refine (last_nil P c A _ (HC.out _ hB)).mono ?_; rintro e w' ⟨rfl, rfl⟩; have hB := hB.alloc hB.size (.cells #[.int .i64 (-1), .int .i64 0] 93)) | (go_at_call 67; refine (push_any base P [] k _ (HR.out.below (by exact Below.alloc (Below.alloc (Below.alloc (Below.refl _ _) (Nat.le_refl _) _) (by simp) _) (by simp; omega) _)) (by simp) (by simp; omega)).mono ?_; rintro e w' ⟨rfl, hr1, hb1⟩))
    go_ret
    exact ⟨rfl, hr1, ((by exact Below.alloc (Below.alloc (Below.alloc (Below.refl _ _) (Nat.le_refl _) _) (by simp) _) (by simp; omega) _ : Below w.heap.size w _).mono hb).trans hb1⟩
end Go.Proofs.YthkkcbfemmpfmaaDoor
