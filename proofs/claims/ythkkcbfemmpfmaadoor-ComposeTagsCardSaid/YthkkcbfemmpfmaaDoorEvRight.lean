import Derived.Test.YthkkcbfemmpfmaaDoorEv
set_option linter.unusedSimpArgs false
set_option linter.unusedVariables false
namespace Go.Proofs.YthkkcbfemmpfmaaDoor
open Go.RowKit Go.Lib

abbrev Tabs (w : World) : Prop := Lib.Utf8Tabs 0 1 w
def rightE (e : Ev) : Bool :=
  if e.kind < 0 ∨ 7 < e.kind ∨ Lib.validD e.text.data.toList = false then false
  else if e.kind = 7 then nameB e.anchor && (e.tag.toList.isEmpty && (e.text.toList.isEmpty && !e.plain))
  else if nodeK e.kind = false then e.anchor.toList.isEmpty && (e.tag.toList.isEmpty && (e.text.toList.isEmpty && !e.plain))
  else if e.kind ≠ 6 ∧ (e.text.toList.isEmpty = false ∨ e.plain = true) then false
  else (e.anchor.toList.isEmpty || nameB e.anchor) && (e.tag.toList.isEmpty || rightB e.tag)

set_option maxHeartbeats 16000000 in
theorem evright_any (k : Int) (a t x : ByteArray) (p : Bool) (w : World) (hx : x.size ≤ 140737488351232) (hT : Tabs w) :
    Calls Tryd.prog 35 #[.agg #[.int .i64 k, .string a, .string t, .string x, .bool p]] w
      fun e w' => e = .returned (.bool (rightE ⟨k, a, t, x, p⟩)) ∧ Below w.heap.size w w' := by
  have hB : Below w.heap.size w (w.alloc (.cells #[.int .i64 k, .string a, .string t, .string x, .bool p] 30)) := (Below.refl _ _).alloc (Nat.le_refl _) _
  have hz : w.heap.size < (w.alloc (.cells #[.int .i64 k, .string a, .string t, .string x, .bool p] 30)).heap.size := by simp
  by_cases h0 : k < 0
  · go_enter Tryd.func35, Tryd.ntmps35
    go_wp2_with fail
    go_ret
    exact ⟨by simp [rightE, h0], hB⟩
  · by_cases h7 : 7 < k
    · go_enter Tryd.func35, Tryd.ntmps35
      go_wp2_with fail
      go_ret
      exact ⟨by simp [rightE, h7], hB⟩
    · cases hv : Lib.validD x.data.toList
      · go_enter Tryd.func35, Tryd.ntmps35
        go_wp2_with (go_at_call 64; refine (Tryd.utf8_ValidString _ _ (by omega) (Utf8Tabs_below hT hB)).mono ?_; rintro e w' ⟨rfl, hb⟩; have hc := bcell hb; have hz := Nat.lt_of_lt_of_le hz hb.size; have hB := hB.trans (hb.mono hB.size))
        go_ret
        exact ⟨by simp [rightE, hv], hB⟩
      · by_cases h77 : k = 7
        · subst h77
          go_enter Tryd.func35, Tryd.ntmps35
          go_wp2_with (first | (go_at_call 64; refine (Tryd.utf8_ValidString _ _ (by omega) (Utf8Tabs_below hT hB)).mono ?_; rintro e w' ⟨rfl, hb⟩; have hc := bcell hb; have hz := Nat.lt_of_lt_of_le hz hb.size; have hB := hB.trans (hb.mono hB.size)) | (go_at_call 65; refine (name_any _ _).mono ?_; rintro e w' ⟨rfl, hb⟩; have hc := bcell hb; have hz := Nat.lt_of_lt_of_le hz hb.size; have hB := hB.trans (hb.mono hB.size)))
          all_goals go_ret
          all_goals exact ⟨by simp_all [rightE], hB⟩
        · cases hk : nodeK k
          · go_enter Tryd.func35, Tryd.ntmps35
            go_wp2_with (first | (go_at_call 64; refine (Tryd.utf8_ValidString _ _ (by omega) (Utf8Tabs_below hT hB)).mono ?_; rintro e w' ⟨rfl, hb⟩; have hc := bcell hb; have hz := Nat.lt_of_lt_of_le hz hb.size; have hB := hB.trans (hb.mono hB.size)) | (go_at_call 65; refine (name_any _ _).mono ?_; rintro e w' ⟨rfl, hb⟩; have hc := bcell hb; have hz := Nat.lt_of_lt_of_le hz hb.size; have hB := hB.trans (hb.mono hB.size)) | (go_at_call 44; refine (node_any _ _ _ _ _ _).mono ?_; rintro e w' ⟨rfl, hb⟩; have hc := bcell hb; have hz := Nat.lt_of_lt_of_le hz hb.size; have hB := hB.trans (hb.mono hB.size)) | (go_at_call 45; refine (right_any _ _).mono ?_; rintro e w' ⟨rfl, hb⟩; have hc := bcell hb; have hz := Nat.lt_of_lt_of_le hz hb.size; have hB := hB.trans (hb.mono hB.size)))
            all_goals go_ret
            all_goals exact ⟨by simp_all [rightE], hB⟩
          · by_cases h6 : k = 6
            · subst h6
              cases ha : a.toList.isEmpty <;> cases hna : nameB a <;> cases ht : t.toList.isEmpty
              all_goals
                go_enter Tryd.func35, Tryd.ntmps35
                go_wp2_with (first | (go_at_call 64; refine (Tryd.utf8_ValidString _ _ (by omega) (Utf8Tabs_below hT hB)).mono ?_; rintro e w' ⟨rfl, hb⟩; have hc := bcell hb; have hz := Nat.lt_of_lt_of_le hz hb.size; have hB := hB.trans (hb.mono hB.size)) | (go_at_call 65; refine (name_any _ _).mono ?_; rintro e w' ⟨rfl, hb⟩; have hc := bcell hb; have hz := Nat.lt_of_lt_of_le hz hb.size; have hB := hB.trans (hb.mono hB.size)) | (go_at_call 44; refine (node_any _ _ _ _ _ _).mono ?_; rintro e w' ⟨rfl, hb⟩; have hc := bcell hb; have hz := Nat.lt_of_lt_of_le hz hb.size; have hB := hB.trans (hb.mono hB.size)) | (go_at_call 45; refine (right_any _ _).mono ?_; rintro e w' ⟨rfl, hb⟩; have hc := bcell hb; have hz := Nat.lt_of_lt_of_le hz hb.size; have hB := hB.trans (hb.mono hB.size)))
                go_ret
                exact ⟨by simp [rightE, hv, ha, hna, ht, hk], hB⟩
            · cases hx0 : x.toList.isEmpty
              · go_enter Tryd.func35, Tryd.ntmps35
                go_wp2_with (first | (go_at_call 64; refine (Tryd.utf8_ValidString _ _ (by omega) (Utf8Tabs_below hT hB)).mono ?_; rintro e w' ⟨rfl, hb⟩; have hc := bcell hb; have hz := Nat.lt_of_lt_of_le hz hb.size; have hB := hB.trans (hb.mono hB.size)) | (go_at_call 65; refine (name_any _ _).mono ?_; rintro e w' ⟨rfl, hb⟩; have hc := bcell hb; have hz := Nat.lt_of_lt_of_le hz hb.size; have hB := hB.trans (hb.mono hB.size)) | (go_at_call 44; refine (node_any _ _ _ _ _ _).mono ?_; rintro e w' ⟨rfl, hb⟩; have hc := bcell hb; have hz := Nat.lt_of_lt_of_le hz hb.size; have hB := hB.trans (hb.mono hB.size)) | (go_at_call 45; refine (right_any _ _).mono ?_; rintro e w' ⟨rfl, hb⟩; have hc := bcell hb; have hz := Nat.lt_of_lt_of_le hz hb.size; have hB := hB.trans (hb.mono hB.size)))
                go_ret
                exact ⟨by simp [rightE, hv, h0, h7, h77, hk, h6, hx0], hB⟩
              · cases p
                · cases ha : a.toList.isEmpty <;> cases hna : nameB a <;> cases ht : t.toList.isEmpty
                  all_goals
                    go_enter Tryd.func35, Tryd.ntmps35
                    go_wp2_with (first | (go_at_call 64; refine (Tryd.utf8_ValidString _ _ (by omega) (Utf8Tabs_below hT hB)).mono ?_; rintro e w' ⟨rfl, hb⟩; have hc := bcell hb; have hz := Nat.lt_of_lt_of_le hz hb.size; have hB := hB.trans (hb.mono hB.size)) | (go_at_call 65; refine (name_any _ _).mono ?_; rintro e w' ⟨rfl, hb⟩; have hc := bcell hb; have hz := Nat.lt_of_lt_of_le hz hb.size; have hB := hB.trans (hb.mono hB.size)) | (go_at_call 44; refine (node_any _ _ _ _ _ _).mono ?_; rintro e w' ⟨rfl, hb⟩; have hc := bcell hb; have hz := Nat.lt_of_lt_of_le hz hb.size; have hB := hB.trans (hb.mono hB.size)) | (go_at_call 45; refine (right_any _ _).mono ?_; rintro e w' ⟨rfl, hb⟩; have hc := bcell hb; have hz := Nat.lt_of_lt_of_le hz hb.size; have hB := hB.trans (hb.mono hB.size)))
                    go_ret
                    exact ⟨by simp [rightE, hv, h0, h7, h77, hk, h6, hx0, ha, hna, ht], hB⟩
                · go_enter Tryd.func35, Tryd.ntmps35
                  go_wp2_with (first | (go_at_call 64; refine (Tryd.utf8_ValidString _ _ (by omega) (Utf8Tabs_below hT hB)).mono ?_; rintro e w' ⟨rfl, hb⟩; have hc := bcell hb; have hz := Nat.lt_of_lt_of_le hz hb.size; have hB := hB.trans (hb.mono hB.size)) | (go_at_call 65; refine (name_any _ _).mono ?_; rintro e w' ⟨rfl, hb⟩; have hc := bcell hb; have hz := Nat.lt_of_lt_of_le hz hb.size; have hB := hB.trans (hb.mono hB.size)) | (go_at_call 44; refine (node_any _ _ _ _ _ _).mono ?_; rintro e w' ⟨rfl, hb⟩; have hc := bcell hb; have hz := Nat.lt_of_lt_of_le hz hb.size; have hB := hB.trans (hb.mono hB.size)) | (go_at_call 45; refine (right_any _ _).mono ?_; rintro e w' ⟨rfl, hb⟩; have hc := bcell hb; have hz := Nat.lt_of_lt_of_le hz hb.size; have hB := hB.trans (hb.mono hB.size)))
                  go_ret
                  exact ⟨by simp [rightE, hv, h0, h7, h77, hk, h6, hx0], hB⟩
end Go.Proofs.YthkkcbfemmpfmaaDoor
