import Derived.Test.YthkkcbfemmpfmaaDoorTagEq
import Derived.Test.YthkkcbfemmpfmaaDoorEv
import Derived.Test.YthkkcbfemmpfmaaDoorHeap
import Derived.Deep.DeepCutAuto
import Derived.Deep.CutBlock
set_option linter.unusedSimpArgs false
set_option linter.unusedVariables false
namespace Go.Proofs.YthkkcbfemmpfmaaDoor
open Go.RowKit Go.Lib

set_option maxRecDepth 100000 in
/-- grilleref09.Tag -/
theorem rtag_any (k : Int) (a t x : ByteArray) (p : Bool) (w : World) (hx : x.size ≤ 140737488351232) (ht : t.size ≤ 140737488351232) :
    Calls Tryd.prog 11 #[.agg #[.int .i64 k, .string a, .string t, .string x, .bool p]] w
      fun e w' => e = .returned (.tuple #[.string (tagE ⟨k, a, t, x, p⟩).1, .int .i64 (tagE ⟨k, a, t, x, p⟩).2]) ∧ Below w.heap.size w w' := by
  have hB : Below w.heap.size w (w.alloc (.cells #[.int .i64 k, .string a, .string t, .string x, .bool p] 23)) := (Below.refl _ _).alloc (Nat.le_refl _) _
  have hE := Blk.new w [.int .i64 k, .string a, .string t, .string x, .bool p] 23
  obtain ⟨v1, h1⟩ : ∃ v, rightR t = v := ⟨_, rfl⟩
  obtain ⟨v2, h2⟩ : ∃ v, coreR t = v := ⟨_, rfl⟩
  obtain ⟨v3, h3⟩ : ∃ v, t.toList.isEmpty = v := ⟨_, rfl⟩
  obtain ⟨v4, h4⟩ : ∃ v, (t.toList == [115, 101, 113]) = v := ⟨_, rfl⟩
  obtain ⟨v5, h5⟩ : ∃ v, (t.toList == [109, 97, 112]) = v := ⟨_, rfl⟩
  obtain ⟨v6, h6⟩ : ∃ v, fitsR t x = v := ⟨_, rfl⟩
  have hf : Hid (tagE ⟨k, a, t, x, p⟩ = if k = 2 then (if v3 || v4 then (tSeq, 0) else if v1 && !v2 then (t, 0) else (⟨#[]⟩, 14))
    else if k = 4 then (if v3 || v5 then (tMap, 0) else if v1 && !v2 then (t, 0) else (⟨#[]⟩, 14))
    else if k = 6 then (if v3 && p then (resolveR x, 0) else if v3 then (tStr, 0) else if v6 then (t, 0) else (⟨#[]⟩, 14)) else (⟨#[]⟩, 5)) := by
    show _ = _
    simp only [tagE, tagTwo, ← right_eq, ← core_eq, ← fits_eq, ← resolve_eq, h1, h2, h3, h6]
    have e1 : tSeq.toList = [115, 101, 113] := by rw [ByteArray.toList_eq]; rfl
    have e2 : tMap.toList = [109, 97, 112] := by rw [ByteArray.toList_eq]; rfl
    rw [e1, e2, h4, h5]
  have H6 := hid' h6
  clear h6
  go_enter Tryd.func11, Tryd.ntmps11
  go_upto_region 1 with fail
  go_cut [4] (fun s4 wx => s4 = .bool (v1 && !v2) ∧ Below w.heap.size w wx ∧ Blk wx w.heap.size [.int .i64 k, .string a, .string t, .string x, .bool p] 23)
  case first =>
    have c2 := hE.cell (j := 2) rfl
    cases v1
    · go_wp2_with (first | (go_at_call 26; refine (rright_any _ _ (by omega)).mono ?_; rw [h1]; rintro e w' ⟨rfl, hb⟩; have hB := hB.trans (hb.mono hB.size); have hE := hE.below hb; have c0 := hE.cell (j := 0) rfl; have c1 := hE.cell (j := 1) rfl; have c2 := hE.cell (j := 2) rfl; have c3 := hE.cell (j := 3) rfl; have c4 := hE.cell (j := 4) rfl) | (go_at_call 27; refine (rcore_any _ _).mono ?_; rw [h2]; rintro e w' ⟨rfl, hb⟩; have hB := hB.trans (hb.mono hB.size); have hE := hE.below hb; have c0 := hE.cell (j := 0) rfl; have c1 := hE.cell (j := 1) rfl; have c2 := hE.cell (j := 2) rfl; have c3 := hE.cell (j := 3) rfl; have c4 := hE.cell (j := 4) rfl) | (go_at_call 29; refine (rfits_any _ _ _ (by omega) (by omega)).mono ?_; rw [H6.out]; rintro e w' ⟨rfl, hb⟩; have hB := hB.trans (hb.mono hB.size); have hE := hE.below hb; have c0 := hE.cell (j := 0) rfl; have c1 := hE.cell (j := 1) rfl; have c2 := hE.cell (j := 2) rfl; have c3 := hE.cell (j := 3) rfl; have c4 := hE.cell (j := 4) rfl) | (go_at_call 28; refine (rresolve_any _ _ (by omega)).mono ?_; rintro e w' ⟨rfl, hb⟩; have hB := hB.trans (hb.mono hB.size); have hE := hE.below hb; have c0 := hE.cell (j := 0) rfl; have c1 := hE.cell (j := 1) rfl; have c2 := hE.cell (j := 2) rfl; have c3 := hE.cell (j := 3) rfl; have c4 := hE.cell (j := 4) rfl))
      go_meet
      case rel => exact ⟨rfl, hB, hE⟩
    · go_wp2_with (first | (go_at_call 26; refine (rright_any _ _ (by omega)).mono ?_; rw [h1]; rintro e w' ⟨rfl, hb⟩; have hB := hB.trans (hb.mono hB.size); have hE := hE.below hb; have c0 := hE.cell (j := 0) rfl; have c1 := hE.cell (j := 1) rfl; have c2 := hE.cell (j := 2) rfl; have c3 := hE.cell (j := 3) rfl; have c4 := hE.cell (j := 4) rfl) | (go_at_call 27; refine (rcore_any _ _).mono ?_; rw [h2]; rintro e w' ⟨rfl, hb⟩; have hB := hB.trans (hb.mono hB.size); have hE := hE.below hb; have c0 := hE.cell (j := 0) rfl; have c1 := hE.cell (j := 1) rfl; have c2 := hE.cell (j := 2) rfl; have c3 := hE.cell (j := 3) rfl; have c4 := hE.cell (j := 4) rfl) | (go_at_call 29; refine (rfits_any _ _ _ (by omega) (by omega)).mono ?_; rw [H6.out]; rintro e w' ⟨rfl, hb⟩; have hB := hB.trans (hb.mono hB.size); have hE := hE.below hb; have c0 := hE.cell (j := 0) rfl; have c1 := hE.cell (j := 1) rfl; have c2 := hE.cell (j := 2) rfl; have c3 := hE.cell (j := 3) rfl; have c4 := hE.cell (j := 4) rfl) | (go_at_call 28; refine (rresolve_any _ _ (by omega)).mono ?_; rintro e w' ⟨rfl, hb⟩; have hB := hB.trans (hb.mono hB.size); have hE := hE.below hb; have c0 := hE.cell (j := 0) rfl; have c1 := hE.cell (j := 1) rfl; have c2 := hE.cell (j := 2) rfl; have c3 := hE.cell (j := 3) rfl; have c4 := hE.cell (j := 4) rfl))
      go_meet
      case rel => exact ⟨by simp, hB, hE⟩
  case rest =>
    clear hB hE
    obtain ⟨rfl, hB, hE⟩ := hcut
    generalize (v1 && !v2) = own at hf
    clear h1 h2
    have c0 := hE.cell (j := 0) rfl
    have c1 := hE.cell (j := 1) rfl
    have c2 := hE.cell (j := 2) rfl
    have c3 := hE.cell (j := 3) rfl
    have c4 := hE.cell (j := 4) rfl
    by_cases k2 : k = 2
    · subst k2
      have hg := hf.out
      rw [if_pos rfl] at hg
      have hG := hid' hg
      clear hf hg
      cases v3
      · cases v4
        · cases own
          all_goals
            go_wp2_with (first | (go_at_call 26; refine (rright_any _ _ (by omega)).mono ?_; rw [h1]; rintro e w' ⟨rfl, hb⟩; have hB := hB.trans (hb.mono hB.size); have hE := hE.below hb; have c0 := hE.cell (j := 0) rfl; have c1 := hE.cell (j := 1) rfl; have c2 := hE.cell (j := 2) rfl; have c3 := hE.cell (j := 3) rfl; have c4 := hE.cell (j := 4) rfl) | (go_at_call 27; refine (rcore_any _ _).mono ?_; rw [h2]; rintro e w' ⟨rfl, hb⟩; have hB := hB.trans (hb.mono hB.size); have hE := hE.below hb; have c0 := hE.cell (j := 0) rfl; have c1 := hE.cell (j := 1) rfl; have c2 := hE.cell (j := 2) rfl; have c3 := hE.cell (j := 3) rfl; have c4 := hE.cell (j := 4) rfl) | (go_at_call 29; refine (rfits_any _ _ _ (by omega) (by omega)).mono ?_; rw [H6.out]; rintro e w' ⟨rfl, hb⟩; have hB := hB.trans (hb.mono hB.size); have hE := hE.below hb; have c0 := hE.cell (j := 0) rfl; have c1 := hE.cell (j := 1) rfl; have c2 := hE.cell (j := 2) rfl; have c3 := hE.cell (j := 3) rfl; have c4 := hE.cell (j := 4) rfl) | (go_at_call 28; refine (rresolve_any _ _ (by omega)).mono ?_; rintro e w' ⟨rfl, hb⟩; have hB := hB.trans (hb.mono hB.size); have hE := hE.below hb; have c0 := hE.cell (j := 0) rfl; have c1 := hE.cell (j := 1) rfl; have c2 := hE.cell (j := 2) rfl; have c3 := hE.cell (j := 3) rfl; have c4 := hE.cell (j := 4) rfl))
            go_ret2
            exact ⟨by rw [hG.out]; rfl, hB⟩
        · go_wp2_with (first | (go_at_call 26; refine (rright_any _ _ (by omega)).mono ?_; rw [h1]; rintro e w' ⟨rfl, hb⟩; have hB := hB.trans (hb.mono hB.size); have hE := hE.below hb; have c0 := hE.cell (j := 0) rfl; have c1 := hE.cell (j := 1) rfl; have c2 := hE.cell (j := 2) rfl; have c3 := hE.cell (j := 3) rfl; have c4 := hE.cell (j := 4) rfl) | (go_at_call 27; refine (rcore_any _ _).mono ?_; rw [h2]; rintro e w' ⟨rfl, hb⟩; have hB := hB.trans (hb.mono hB.size); have hE := hE.below hb; have c0 := hE.cell (j := 0) rfl; have c1 := hE.cell (j := 1) rfl; have c2 := hE.cell (j := 2) rfl; have c3 := hE.cell (j := 3) rfl; have c4 := hE.cell (j := 4) rfl) | (go_at_call 29; refine (rfits_any _ _ _ (by omega) (by omega)).mono ?_; rw [H6.out]; rintro e w' ⟨rfl, hb⟩; have hB := hB.trans (hb.mono hB.size); have hE := hE.below hb; have c0 := hE.cell (j := 0) rfl; have c1 := hE.cell (j := 1) rfl; have c2 := hE.cell (j := 2) rfl; have c3 := hE.cell (j := 3) rfl; have c4 := hE.cell (j := 4) rfl) | (go_at_call 28; refine (rresolve_any _ _ (by omega)).mono ?_; rintro e w' ⟨rfl, hb⟩; have hB := hB.trans (hb.mono hB.size); have hE := hE.below hb; have c0 := hE.cell (j := 0) rfl; have c1 := hE.cell (j := 1) rfl; have c2 := hE.cell (j := 2) rfl; have c3 := hE.cell (j := 3) rfl; have c4 := hE.cell (j := 4) rfl))
          go_ret2
          exact ⟨by rw [hG.out]; rfl, hB⟩
      · go_wp2_with (first | (go_at_call 26; refine (rright_any _ _ (by omega)).mono ?_; rw [h1]; rintro e w' ⟨rfl, hb⟩; have hB := hB.trans (hb.mono hB.size); have hE := hE.below hb; have c0 := hE.cell (j := 0) rfl; have c1 := hE.cell (j := 1) rfl; have c2 := hE.cell (j := 2) rfl; have c3 := hE.cell (j := 3) rfl; have c4 := hE.cell (j := 4) rfl) | (go_at_call 27; refine (rcore_any _ _).mono ?_; rw [h2]; rintro e w' ⟨rfl, hb⟩; have hB := hB.trans (hb.mono hB.size); have hE := hE.below hb; have c0 := hE.cell (j := 0) rfl; have c1 := hE.cell (j := 1) rfl; have c2 := hE.cell (j := 2) rfl; have c3 := hE.cell (j := 3) rfl; have c4 := hE.cell (j := 4) rfl) | (go_at_call 29; refine (rfits_any _ _ _ (by omega) (by omega)).mono ?_; rw [H6.out]; rintro e w' ⟨rfl, hb⟩; have hB := hB.trans (hb.mono hB.size); have hE := hE.below hb; have c0 := hE.cell (j := 0) rfl; have c1 := hE.cell (j := 1) rfl; have c2 := hE.cell (j := 2) rfl; have c3 := hE.cell (j := 3) rfl; have c4 := hE.cell (j := 4) rfl) | (go_at_call 28; refine (rresolve_any _ _ (by omega)).mono ?_; rintro e w' ⟨rfl, hb⟩; have hB := hB.trans (hb.mono hB.size); have hE := hE.below hb; have c0 := hE.cell (j := 0) rfl; have c1 := hE.cell (j := 1) rfl; have c2 := hE.cell (j := 2) rfl; have c3 := hE.cell (j := 3) rfl; have c4 := hE.cell (j := 4) rfl))
        go_ret2
        exact ⟨by rw [hG.out]; rfl, hB⟩
    by_cases k4 : k = 4
    · subst k4
      have hg := hf.out
      rw [if_neg (by decide), if_pos rfl] at hg
      have hG := hid' hg
      clear hf hg k2
      cases v3
      · cases v5
        · cases own
          all_goals
            go_wp2_with (first | (go_at_call 26; refine (rright_any _ _ (by omega)).mono ?_; rw [h1]; rintro e w' ⟨rfl, hb⟩; have hB := hB.trans (hb.mono hB.size); have hE := hE.below hb; have c0 := hE.cell (j := 0) rfl; have c1 := hE.cell (j := 1) rfl; have c2 := hE.cell (j := 2) rfl; have c3 := hE.cell (j := 3) rfl; have c4 := hE.cell (j := 4) rfl) | (go_at_call 27; refine (rcore_any _ _).mono ?_; rw [h2]; rintro e w' ⟨rfl, hb⟩; have hB := hB.trans (hb.mono hB.size); have hE := hE.below hb; have c0 := hE.cell (j := 0) rfl; have c1 := hE.cell (j := 1) rfl; have c2 := hE.cell (j := 2) rfl; have c3 := hE.cell (j := 3) rfl; have c4 := hE.cell (j := 4) rfl) | (go_at_call 29; refine (rfits_any _ _ _ (by omega) (by omega)).mono ?_; rw [H6.out]; rintro e w' ⟨rfl, hb⟩; have hB := hB.trans (hb.mono hB.size); have hE := hE.below hb; have c0 := hE.cell (j := 0) rfl; have c1 := hE.cell (j := 1) rfl; have c2 := hE.cell (j := 2) rfl; have c3 := hE.cell (j := 3) rfl; have c4 := hE.cell (j := 4) rfl) | (go_at_call 28; refine (rresolve_any _ _ (by omega)).mono ?_; rintro e w' ⟨rfl, hb⟩; have hB := hB.trans (hb.mono hB.size); have hE := hE.below hb; have c0 := hE.cell (j := 0) rfl; have c1 := hE.cell (j := 1) rfl; have c2 := hE.cell (j := 2) rfl; have c3 := hE.cell (j := 3) rfl; have c4 := hE.cell (j := 4) rfl))
            go_ret2
            exact ⟨by rw [hG.out]; rfl, hB⟩
        · go_wp2_with (first | (go_at_call 26; refine (rright_any _ _ (by omega)).mono ?_; rw [h1]; rintro e w' ⟨rfl, hb⟩; have hB := hB.trans (hb.mono hB.size); have hE := hE.below hb; have c0 := hE.cell (j := 0) rfl; have c1 := hE.cell (j := 1) rfl; have c2 := hE.cell (j := 2) rfl; have c3 := hE.cell (j := 3) rfl; have c4 := hE.cell (j := 4) rfl) | (go_at_call 27; refine (rcore_any _ _).mono ?_; rw [h2]; rintro e w' ⟨rfl, hb⟩; have hB := hB.trans (hb.mono hB.size); have hE := hE.below hb; have c0 := hE.cell (j := 0) rfl; have c1 := hE.cell (j := 1) rfl; have c2 := hE.cell (j := 2) rfl; have c3 := hE.cell (j := 3) rfl; have c4 := hE.cell (j := 4) rfl) | (go_at_call 29; refine (rfits_any _ _ _ (by omega) (by omega)).mono ?_; rw [H6.out]; rintro e w' ⟨rfl, hb⟩; have hB := hB.trans (hb.mono hB.size); have hE := hE.below hb; have c0 := hE.cell (j := 0) rfl; have c1 := hE.cell (j := 1) rfl; have c2 := hE.cell (j := 2) rfl; have c3 := hE.cell (j := 3) rfl; have c4 := hE.cell (j := 4) rfl) | (go_at_call 28; refine (rresolve_any _ _ (by omega)).mono ?_; rintro e w' ⟨rfl, hb⟩; have hB := hB.trans (hb.mono hB.size); have hE := hE.below hb; have c0 := hE.cell (j := 0) rfl; have c1 := hE.cell (j := 1) rfl; have c2 := hE.cell (j := 2) rfl; have c3 := hE.cell (j := 3) rfl; have c4 := hE.cell (j := 4) rfl))
          go_ret2
          exact ⟨by rw [hG.out]; rfl, hB⟩
      · go_wp2_with (first | (go_at_call 26; refine (rright_any _ _ (by omega)).mono ?_; rw [h1]; rintro e w' ⟨rfl, hb⟩; have hB := hB.trans (hb.mono hB.size); have hE := hE.below hb; have c0 := hE.cell (j := 0) rfl; have c1 := hE.cell (j := 1) rfl; have c2 := hE.cell (j := 2) rfl; have c3 := hE.cell (j := 3) rfl; have c4 := hE.cell (j := 4) rfl) | (go_at_call 27; refine (rcore_any _ _).mono ?_; rw [h2]; rintro e w' ⟨rfl, hb⟩; have hB := hB.trans (hb.mono hB.size); have hE := hE.below hb; have c0 := hE.cell (j := 0) rfl; have c1 := hE.cell (j := 1) rfl; have c2 := hE.cell (j := 2) rfl; have c3 := hE.cell (j := 3) rfl; have c4 := hE.cell (j := 4) rfl) | (go_at_call 29; refine (rfits_any _ _ _ (by omega) (by omega)).mono ?_; rw [H6.out]; rintro e w' ⟨rfl, hb⟩; have hB := hB.trans (hb.mono hB.size); have hE := hE.below hb; have c0 := hE.cell (j := 0) rfl; have c1 := hE.cell (j := 1) rfl; have c2 := hE.cell (j := 2) rfl; have c3 := hE.cell (j := 3) rfl; have c4 := hE.cell (j := 4) rfl) | (go_at_call 28; refine (rresolve_any _ _ (by omega)).mono ?_; rintro e w' ⟨rfl, hb⟩; have hB := hB.trans (hb.mono hB.size); have hE := hE.below hb; have c0 := hE.cell (j := 0) rfl; have c1 := hE.cell (j := 1) rfl; have c2 := hE.cell (j := 2) rfl; have c3 := hE.cell (j := 3) rfl; have c4 := hE.cell (j := 4) rfl))
        go_ret2
        exact ⟨by rw [hG.out]; rfl, hB⟩
    by_cases k6 : k = 6
    · subst k6
      have hg := hf.out
      rw [if_neg (by decide), if_neg (by decide), if_pos rfl] at hg
      have hG := hid' hg
      clear hf hg k2 k4
      cases v3
      · cases v6
        all_goals
          go_wp2_with (first | (go_at_call 26; refine (rright_any _ _ (by omega)).mono ?_; rw [h1]; rintro e w' ⟨rfl, hb⟩; have hB := hB.trans (hb.mono hB.size); have hE := hE.below hb; have c0 := hE.cell (j := 0) rfl; have c1 := hE.cell (j := 1) rfl; have c2 := hE.cell (j := 2) rfl; have c3 := hE.cell (j := 3) rfl; have c4 := hE.cell (j := 4) rfl) | (go_at_call 27; refine (rcore_any _ _).mono ?_; rw [h2]; rintro e w' ⟨rfl, hb⟩; have hB := hB.trans (hb.mono hB.size); have hE := hE.below hb; have c0 := hE.cell (j := 0) rfl; have c1 := hE.cell (j := 1) rfl; have c2 := hE.cell (j := 2) rfl; have c3 := hE.cell (j := 3) rfl; have c4 := hE.cell (j := 4) rfl) | (go_at_call 29; refine (rfits_any _ _ _ (by omega) (by omega)).mono ?_; rw [H6.out]; rintro e w' ⟨rfl, hb⟩; have hB := hB.trans (hb.mono hB.size); have hE := hE.below hb; have c0 := hE.cell (j := 0) rfl; have c1 := hE.cell (j := 1) rfl; have c2 := hE.cell (j := 2) rfl; have c3 := hE.cell (j := 3) rfl; have c4 := hE.cell (j := 4) rfl) | (go_at_call 28; refine (rresolve_any _ _ (by omega)).mono ?_; rintro e w' ⟨rfl, hb⟩; have hB := hB.trans (hb.mono hB.size); have hE := hE.below hb; have c0 := hE.cell (j := 0) rfl; have c1 := hE.cell (j := 1) rfl; have c2 := hE.cell (j := 2) rfl; have c3 := hE.cell (j := 3) rfl; have c4 := hE.cell (j := 4) rfl))
          go_ret2
          exact ⟨by rw [hG.out]; rfl, hB⟩
      · cases p
        all_goals
          go_wp2_with (first | (go_at_call 26; refine (rright_any _ _ (by omega)).mono ?_; rw [h1]; rintro e w' ⟨rfl, hb⟩; have hB := hB.trans (hb.mono hB.size); have hE := hE.below hb; have c0 := hE.cell (j := 0) rfl; have c1 := hE.cell (j := 1) rfl; have c2 := hE.cell (j := 2) rfl; have c3 := hE.cell (j := 3) rfl; have c4 := hE.cell (j := 4) rfl) | (go_at_call 27; refine (rcore_any _ _).mono ?_; rw [h2]; rintro e w' ⟨rfl, hb⟩; have hB := hB.trans (hb.mono hB.size); have hE := hE.below hb; have c0 := hE.cell (j := 0) rfl; have c1 := hE.cell (j := 1) rfl; have c2 := hE.cell (j := 2) rfl; have c3 := hE.cell (j := 3) rfl; have c4 := hE.cell (j := 4) rfl) | (go_at_call 29; refine (rfits_any _ _ _ (by omega) (by omega)).mono ?_; rw [H6.out]; rintro e w' ⟨rfl, hb⟩; have hB := hB.trans (hb.mono hB.size); have hE := hE.below hb; have c0 := hE.cell (j := 0) rfl; have c1 := hE.cell (j := 1) rfl; have c2 := hE.cell (j := 2) rfl; have c3 := hE.cell (j := 3) rfl; have c4 := hE.cell (j := 4) rfl) | (go_at_call 28; refine (rresolve_any _ _ (by omega)).mono ?_; rintro e w' ⟨rfl, hb⟩; have hB := hB.trans (hb.mono hB.size); have hE := hE.below hb; have c0 := hE.cell (j := 0) rfl; have c1 := hE.cell (j := 1) rfl; have c2 := hE.cell (j := 2) rfl; have c3 := hE.cell (j := 3) rfl; have c4 := hE.cell (j := 4) rfl))
          go_ret2
          exact ⟨by rw [hG.out]; rfl, hB⟩
    · have hg := hf.out
      rw [if_neg k2, if_neg k4, if_neg k6] at hg
      have hG := hid' hg
      have b2 : (k == 2) = false := by simp [k2]
      have b4 : (k == 4) = false := by simp [k4]
      have b6 : (k == 6) = false := by simp [k6]
      clear hf hg k2 k4 k6
      go_wp2_with (first | (go_at_call 26; refine (rright_any _ _ (by omega)).mono ?_; rw [h1]; rintro e w' ⟨rfl, hb⟩; have hB := hB.trans (hb.mono hB.size); have hE := hE.below hb; have c0 := hE.cell (j := 0) rfl; have c1 := hE.cell (j := 1) rfl; have c2 := hE.cell (j := 2) rfl; have c3 := hE.cell (j := 3) rfl; have c4 := hE.cell (j := 4) rfl) | (go_at_call 27; refine (rcore_any _ _).mono ?_; rw [h2]; rintro e w' ⟨rfl, hb⟩; have hB := hB.trans (hb.mono hB.size); have hE := hE.below hb; have c0 := hE.cell (j := 0) rfl; have c1 := hE.cell (j := 1) rfl; have c2 := hE.cell (j := 2) rfl; have c3 := hE.cell (j := 3) rfl; have c4 := hE.cell (j := 4) rfl) | (go_at_call 29; refine (rfits_any _ _ _ (by omega) (by omega)).mono ?_; rw [H6.out]; rintro e w' ⟨rfl, hb⟩; have hB := hB.trans (hb.mono hB.size); have hE := hE.below hb; have c0 := hE.cell (j := 0) rfl; have c1 := hE.cell (j := 1) rfl; have c2 := hE.cell (j := 2) rfl; have c3 := hE.cell (j := 3) rfl; have c4 := hE.cell (j := 4) rfl) | (go_at_call 28; refine (rresolve_any _ _ (by omega)).mono ?_; rintro e w' ⟨rfl, hb⟩; have hB := hB.trans (hb.mono hB.size); have hE := hE.below hb; have c0 := hE.cell (j := 0) rfl; have c1 := hE.cell (j := 1) rfl; have c2 := hE.cell (j := 2) rfl; have c3 := hE.cell (j := 3) rfl; have c4 := hE.cell (j := 4) rfl))
      go_ret2
      exact ⟨by rw [hG.out]; rfl, hB⟩
end Go.Proofs.YthkkcbfemmpfmaaDoor
