import Derived.Test.YthkkcbfemmpfmaaDoorAlive
import Derived.Test.YthkkcbfemmpfmaaDoorRefTag
set_option linter.unusedSimpArgs false
set_option linter.unusedVariables false
namespace Go.Proofs.YthkkcbfemmpfmaaDoor
open Go.RowKit Go.Lib

def bigE (e : Ev) : Bool := decide (2000 < e.text.size) || (decide (2000 < e.anchor.size) || decide (2000 < e.tag.size))
def heavyL (es : List Ev) : Bool := es.any bigE || decide (150 < es.length)
set_option maxRecDepth 100000 in
theorem heavy_any (A : Option Addr) (n c : Nat) (es : List Ev) (w : World) (h : REv w A n es) :
    Calls Tryd.prog 9 #[.slice A n c] w fun e w' => e = .returned (.bool (heavyL es)) ∧ Below w.heap.size w w' := by
  have hn := h.n
  have hm := h.max
  have HN := hid' hn
  have HE := hid' h
  clear hn h
  go_enter Tryd.func9, Tryd.ntmps9
  go_wp2_with fail
  go_loopw [7] (fun i wr => ∃ k : Nat, k ≤ n ∧ i = .int .i64 k ∧ Hid (es.any bigE = (es.drop k).any bigE) ∧ Below w.heap.size w wr) (fun i _ => n - (intOf i).toNat)
  case atStart => exact ⟨0, Nat.zero_le _, rfl, by simp [Hid], Below.refl _ _⟩
  case round =>
    obtain ⟨k, hk, rfl, hr, hB⟩ := hrel
    by_cases hlt : k < n
    · have hk' : k < es.length := by rw [HN.out]; exact hlt
      obtain ⟨b, off, rfl, e0, e1, e2, e3, e4⟩ := (HE.out.below hB).at_ k hk'
      have hd := List.drop_eq_getElem_cons hk'
      have hr' : Hid (es.any bigE = (bigE es[k] || (es.drop (k + 1)).any bigE)) := by show _ = _; rw [hr.out, hd]; rfl
      generalize es[k] = e at e0 e1 e2 e3 e4 hr'
      obtain ⟨κ, a, t, x, pl⟩ := e
      simp only at e0 e1 e2 e3 e4
      clear hd hr
      have fin : bigE ⟨κ, a, t, x, pl⟩ = true → Hid (heavyL es = true) := fun h => by show _ = _; rw [heavyL, hr'.out, h]; rfl
      by_cases h1 : 2000 < x.size
      · have hf := fin (by simp [bigE, h1])
        clear hr' fin
        go_wp2_with fail
        go_ret
        exact ⟨by rw [hf.out]; rfl, hB.alloc hB.size _⟩
      · by_cases h2 : 2000 < a.size
        · have hf := fin (by simp [bigE, h2])
          clear hr' fin
          go_wp2_with fail
          go_ret
          exact ⟨by rw [hf.out]; rfl, hB.alloc hB.size _⟩
        · by_cases h3 : 2000 < t.size
          · have hf := fin (by simp [bigE, h3])
            clear hr' fin
            go_wp2_with fail
            go_ret
            exact ⟨by rw [hf.out]; rfl, hB.alloc hB.size _⟩
          · have hf : Hid (es.any bigE = (es.drop (k + 1)).any bigE) := by show _ = _; rw [hr'.out]; simp [bigE, h1, h2, h3]
            clear hr' fin
            go_wp2_with fail
            go_roundw
            case rel => exact ⟨k + 1, by omega, by go_num, hf, hB.alloc hB.size _⟩
            case measure => simp [intOf]; omega
    · have hf : Hid (heavyL es = decide (150 < n)) := by
        have := hr.out; rw [List.drop_of_length_le (by rw [HN.out]; omega)] at this
        show _ = _; rw [heavyL, this, HN.out]; rfl
      clear hr
      by_cases h150 : 150 < n
      · have hf2 : Hid (heavyL es = true) := by show _ = _; rw [hf.out]; simp [h150]
        go_wp2_with fail
        go_ret
        exact ⟨by rw [hf2.out]; first | rfl | (simp; omega), hB⟩
      · have hf2 : Hid (heavyL es = false) := by show _ = _; rw [hf.out]; simp [h150]
        go_wp2_with fail
        go_ret
        exact ⟨by rw [hf2.out]; first | rfl | (simp; omega), hB⟩

theorem rev_one {w : World} {b : Nat} {e : Ev} {t : TypeId} (h : Blk w b e.cells t) (hok : e.ok) : REv w (some ⟨b, 0, none⟩) 1 [e] := by
  refine ⟨⟨rfl, by decide, fun _ => ⟨b, 0, rfl, fun j u hu => ?_⟩⟩, ?_, by decide⟩
  · rw [Nat.zero_add]
    have : evCells [e] = e.cells := by simp [evCells]
    rw [this] at hu
    exact h.cell hu
  · intro x hx
    obtain rfl : x = e := by simpa using hx
    exact hok
set_option maxRecDepth 100000 in
/-- grillelaw09.ComposeTags -/
theorem tags_any (k : Int) (a t x : ByteArray) (p : Bool) (w : World) (hok : Ev.ok ⟨k, a, t, x, p⟩) (hT : Tabs w) :
    Calls Tryd.prog 3 #[.agg #[.int .i64 k, .string a, .string t, .string x, .bool p]] w fun e w' => e = .returned (.bool true) ∧ Below w.heap.size w w' := by
  have hB : Below w.heap.size w (w.alloc (.cells #[.int .i64 k, .string a, .string t, .string x, .bool p] 23)) := below1 _ _
  have hE := Blk.new w [.int .i64 k, .string a, .string t, .string x, .bool p] 23
  have HT := hid' hT
  have hx := hok.2.2.2.2
  have ht := hok.2.2.2.1
  simp only at hx ht
  have HOK := hid' hok
  have HTag := hid' (fun w => tag_any k a t x p w hx)
  have HRef := hid' (fun w => rtag_any k a t x p w hx ht)
  clear hT hok
  generalize tagE ⟨k, a, t, x, p⟩ = r at HTag HRef
  obtain ⟨T, f⟩ := r
  simp only at HTag HRef
  have hrev := hid' (fun (W : World) => rev_one (Blk.new W (Ev.cells ⟨k, a, t, x, p⟩) 23) HOK.out)
  cases hh : heavyL [⟨k, a, t, x, p⟩]
  all_goals
    have HH := hid' hh
    clear hh
    go_enter Tryd.func3, Tryd.ntmps3
    go_wp2_with (first | (go_at_call 8; refine (alive_any _ (Utf8Tabs_below HT.out hB)).mono ?_; rintro e w1 ⟨rfl, hb⟩; have hB := hB.trans (hb.mono hB.size); have hE := hE.below hb; have c0 := hE.cell (j := 0) rfl; have c1 := hE.cell (j := 1) rfl; have c2 := hE.cell (j := 2) rfl; have c3 := hE.cell (j := 3) rfl; have c4 := hE.cell (j := 4) rfl) | (go_at_call 9; refine (heavy_any _ _ _ [⟨k, a, t, x, p⟩] _ (hrev.out _)).mono ?_; rw [HH.out]; rintro e w2 ⟨rfl, hb⟩; have hE := (hE.below (below1 _ _)).below hb; have hB := (hB.trans ((below1 _ _).mono hB.size)).trans (hb.mono (hB.trans ((below1 _ _).mono hB.size)).size); have c0 := hE.cell (j := 0) rfl; have c1 := hE.cell (j := 1) rfl; have c2 := hE.cell (j := 2) rfl; have c3 := hE.cell (j := 3) rfl; have c4 := hE.cell (j := 4) rfl) | (go_at_call 10; refine (HTag.out _).mono ?_; rintro e w3 ⟨rfl, hb⟩; have hB := hB.trans (hb.mono hB.size); have hE := hE.below hb; have c0 := hE.cell (j := 0) rfl; have c1 := hE.cell (j := 1) rfl; have c2 := hE.cell (j := 2) rfl; have c3 := hE.cell (j := 3) rfl; have c4 := hE.cell (j := 4) rfl) | (go_at_call 11; refine (HRef.out _).mono ?_; rintro e w4 ⟨rfl, hb⟩; have hB := hB.trans (hb.mono hB.size)))
    go_ret
    exact ⟨by first | rfl | simp, hB⟩
end Go.Proofs.YthkkcbfemmpfmaaDoor
