import Derived.Test.YthkkcbfemmpfmaaDoorRef3
set_option linter.unusedSimpArgs false
set_option linter.unusedVariables false
namespace Go.Proofs.YthkkcbfemmpfmaaDoor
open Go.RowKit Go.Lib

def digs : ByteArray := ⟨#[48, 49, 50, 51, 52, 53, 54, 55, 56, 57]⟩
def octs : ByteArray := ⟨#[48, 49, 50, 51, 52, 53, 54, 55]⟩
def hexs : ByteArray := ⟨#[48, 49, 50, 51, 52, 53, 54, 55, 56, 57, 97, 98, 99, 100, 101, 102, 65, 66, 67, 68, 69, 70]⟩
def nameset : ByteArray := ⟨#[48, 49, 50, 51, 52, 53, 54, 55, 56, 57, 97, 98, 99, 100, 101, 102, 103, 104, 105, 106, 107, 108, 109, 110, 111, 112, 113, 114, 115, 116, 117, 118, 119, 120, 121, 122, 65, 66, 67, 68, 69, 70, 71, 72, 73, 74, 75, 76, 77, 78, 79, 80, 81, 82, 83, 84, 85, 86, 87, 88, 89, 90, 45]⟩
def nullL : List ByteArray := [⟨#[]⟩, ⟨#[126]⟩, ⟨#[110, 117, 108, 108]⟩, ⟨#[78, 117, 108, 108]⟩, ⟨#[78, 85, 76, 76]⟩]
def boolL : List ByteArray := [⟨#[116, 114, 117, 101]⟩, ⟨#[84, 114, 117, 101]⟩, ⟨#[84, 82, 85, 69]⟩, ⟨#[102, 97, 108, 115, 101]⟩, ⟨#[70, 97, 108, 115, 101]⟩, ⟨#[70, 65, 76, 83, 69]⟩]
def infL : List ByteArray := [⟨#[46, 105, 110, 102]⟩, ⟨#[46, 73, 110, 102]⟩, ⟨#[46, 73, 78, 70]⟩]
def nanL : List ByteArray := [⟨#[46, 110, 97, 110]⟩, ⟨#[46, 78, 97, 78]⟩, ⟨#[46, 78, 65, 78]⟩]
def coreL : List ByteArray := [tNull, tBool, tInt, tFloat, tStr, tSeq, tMap]
def plainL : List ByteArray := [tNull, tBool, tInt, tFloat]
theorem extract_size_le (s : ByteArray) (a b : Nat) : (s.extract a b).size ≤ s.size := by
  rw [Lib.size_eq, ← ByteArray.toList_eq, Lib.extract_toList, List.length_take, List.length_drop, ← Lib.size_eq]; omega
theorem prefix_size {s : ByteArray} {p : List UInt8} (h : Lib.hasPrefix s.data.toList p = true) : p.length ≤ s.size := by
  unfold Lib.hasPrefix at h
  rw [List.isPrefixOf_iff_prefix] at h
  rw [Lib.size_eq]; exact h.length_le
theorem rrow_lit (w : World) (l : List ByteArray) (t : TypeId) (hl : l.length ≤ 100) : RRow (w.alloc (.cells (l.map Value.string).toArray t)) 1 (some ⟨w.heap.size, 0, none⟩) l.length (l.map Value.string) :=
  ⟨by simp, by omega, fun _ => ⟨_, 0, rfl, fun j u hu => by rw [Nat.zero_add]; exact (Blk.new w _ t).cell hu⟩⟩
theorem belowA (w : World) (o1 : Obj) : Below w.heap.size w (w.alloc o1) := (Below.refl _ _).alloc (Nat.le_refl _) _
def wholeR (s : ByteArray) : Bool :=
  if onlyR (signB s) digs then true else if pre0o s then onlyR (s.extract 2 s.size) octs else pre0x s && onlyR (s.extract 2 s.size) hexs
def fractionR (s : ByteArray) : Bool :=
  if findL 46 46 s.data.toList = s.size then onlyR s digs
  else if findL 46 46 s.data.toList = 0 then onlyR (s.extract (findL 46 46 s.data.toList + 1) s.size) digs
  else onlyR (s.extract 0 (findL 46 46 s.data.toList)) digs && ((s.extract (findL 46 46 s.data.toList + 1) s.size).toList.isEmpty || onlyR (s.extract (findL 46 46 s.data.toList + 1) s.size) digs)
def floatR (s : ByteArray) : Bool :=
  if oneR (signB s) infL || oneR s nanL then true
  else if findL 101 69 (signB s).data.toList < (signB s).size ∧ onlyR (signB ((signB s).extract (findL 101 69 (signB s).data.toList + 1) (signB s).size)) digs = false then false
  else fractionR ((signB s).extract 0 (findL 101 69 (signB s).data.toList))
def resolveR (s : ByteArray) : ByteArray := if oneR s nullL then tNull else if oneR s boolL then tBool else if wholeR s then tInt else if floatR s then tFloat else tStr
def ownR (s : ByteArray) : Bool := Lib.hasPrefix s.data.toList [33] && (decide (s.size ≤ 41) && onlyR (s.extract 1 s.size) nameset)
def coreR (s : ByteArray) : Bool := oneR s coreL
def rightR (s : ByteArray) : Bool := coreR s || ownR s
def fitsR (t s : ByteArray) : Bool := if t.toList == [115, 116, 114] || ownR t then true else oneR t plainL && ((resolveR s).toList == t.toList || (t.toList == [102, 108, 111, 97, 116] && (resolveR s).toList == [105, 110, 116]))
theorem one_nullL (s : ByteArray) (w : World) : Calls Tryd.prog 53 #[.string s, .slice (some ⟨w.heap.size, 0, none⟩) 5 5] (w.alloc (.cells #[.string ⟨#[]⟩, .string ⟨#[126]⟩, .string ⟨#[110, 117, 108, 108]⟩, .string ⟨#[78, 117, 108, 108]⟩, .string ⟨#[78, 85, 76, 76]⟩] 9)) fun e w' => e = .returned (.bool (oneR s nullL)) ∧ Below w.heap.size w w' :=
  (one_any s _ _ _ nullL _ (rrow_lit w nullL 9 (by decide))).mono fun _ _ h => ⟨h.1, (belowA w _).trans (h.2.mono (belowA w _).size)⟩
theorem one_boolL (s : ByteArray) (w : World) : Calls Tryd.prog 53 #[.string s, .slice (some ⟨w.heap.size, 0, none⟩) 6 6] (w.alloc (.cells #[.string ⟨#[116, 114, 117, 101]⟩, .string ⟨#[84, 114, 117, 101]⟩, .string ⟨#[84, 82, 85, 69]⟩, .string ⟨#[102, 97, 108, 115, 101]⟩, .string ⟨#[70, 97, 108, 115, 101]⟩, .string ⟨#[70, 65, 76, 83, 69]⟩] 9)) fun e w' => e = .returned (.bool (oneR s boolL)) ∧ Below w.heap.size w w' :=
  (one_any s _ _ _ boolL _ (rrow_lit w boolL 9 (by decide))).mono fun _ _ h => ⟨h.1, (belowA w _).trans (h.2.mono (belowA w _).size)⟩
theorem one_infL (s : ByteArray) (w : World) : Calls Tryd.prog 53 #[.string s, .slice (some ⟨w.heap.size, 0, none⟩) 3 3] (w.alloc (.cells #[.string ⟨#[46, 105, 110, 102]⟩, .string ⟨#[46, 73, 110, 102]⟩, .string ⟨#[46, 73, 78, 70]⟩] 9)) fun e w' => e = .returned (.bool (oneR s infL)) ∧ Below w.heap.size w w' :=
  (one_any s _ _ _ infL _ (rrow_lit w infL 9 (by decide))).mono fun _ _ h => ⟨h.1, (belowA w _).trans (h.2.mono (belowA w _).size)⟩
theorem one_nanL (s : ByteArray) (w : World) : Calls Tryd.prog 53 #[.string s, .slice (some ⟨w.heap.size, 0, none⟩) 3 3] (w.alloc (.cells #[.string ⟨#[46, 110, 97, 110]⟩, .string ⟨#[46, 78, 97, 78]⟩, .string ⟨#[46, 78, 65, 78]⟩] 9)) fun e w' => e = .returned (.bool (oneR s nanL)) ∧ Below w.heap.size w w' :=
  (one_any s _ _ _ nanL _ (rrow_lit w nanL 9 (by decide))).mono fun _ _ h => ⟨h.1, (belowA w _).trans (h.2.mono (belowA w _).size)⟩
theorem one_coreL (s : ByteArray) (w : World) : Calls Tryd.prog 53 #[.string s, .slice (some ⟨w.heap.size, 0, none⟩) 7 7] (w.alloc (.cells #[.string ⟨#[110, 117, 108, 108]⟩, .string ⟨#[98, 111, 111, 108]⟩, .string ⟨#[105, 110, 116]⟩, .string ⟨#[102, 108, 111, 97, 116]⟩, .string ⟨#[115, 116, 114]⟩, .string ⟨#[115, 101, 113]⟩, .string ⟨#[109, 97, 112]⟩] 9)) fun e w' => e = .returned (.bool (oneR s coreL)) ∧ Below w.heap.size w w' :=
  (one_any s _ _ _ coreL _ (rrow_lit w coreL 9 (by decide))).mono fun _ _ h => ⟨h.1, (belowA w _).trans (h.2.mono (belowA w _).size)⟩
theorem one_plainL (s : ByteArray) (w : World) : Calls Tryd.prog 53 #[.string s, .slice (some ⟨w.heap.size, 0, none⟩) 4 4] (w.alloc (.cells #[.string ⟨#[110, 117, 108, 108]⟩, .string ⟨#[98, 111, 111, 108]⟩, .string ⟨#[105, 110, 116]⟩, .string ⟨#[102, 108, 111, 97, 116]⟩] 9)) fun e w' => e = .returned (.bool (oneR s plainL)) ∧ Below w.heap.size w w' :=
  (one_any s _ _ _ plainL _ (rrow_lit w plainL 9 (by decide))).mono fun _ _ h => ⟨h.1, (belowA w _).trans (h.2.mono (belowA w _).size)⟩
set_option maxRecDepth 100000 in
theorem rwhole_any (s : ByteArray) (w : World) (hs : s.size ≤ 9223372036854775807) : Calls Tryd.prog 54 #[.string s] w fun e w' => e = .returned (.bool (wholeR s)) ∧ Below w.heap.size w w' := by
  have h1 := signB_size s
  have h2 := extract_size_le s 2 s.size
  have hB := Below.refl w.heap.size w
  obtain ⟨vd, hd⟩ : ∃ v, onlyR (signB s) digs = v := ⟨_, rfl⟩
  obtain ⟨vo, ho⟩ : ∃ v, pre0o s = v := ⟨_, rfl⟩
  obtain ⟨vx, hx⟩ : ∃ v, pre0x s = v := ⟨_, rfl⟩
  have hf : Hid (wholeR s = if vd then true else if vo then onlyR (s.extract 2 s.size) octs else vx && onlyR (s.extract 2 s.size) hexs) := by show _ = _; rw [wholeR, hd, ho, hx]
  have s1 : vo = true → 2 ≤ s.size := fun e => by rw [e] at ho; exact prefix_size ho
  have s2 : vx = true → 2 ≤ s.size := fun e => by rw [e] at hx; exact prefix_size hx
  simp only [digs, pre0o, pre0x] at hd ho hx
  cases vd
  · cases vo
    · cases vx
      all_goals
        try have s3 := s2 rfl
        clear s1 s2
        go_enter Tryd.func54, Tryd.ntmps54
        go_wp2_with (first | (go_at_call 87; refine (bare_any _ _).mono ?_; rintro e w' ⟨rfl, rfl⟩) | (go_at_call 85; refine (begins_any _ _ _).mono ?_; rintro e w' ⟨rfl, rfl⟩) | (go_at_call 86; refine (only_any _ _ _ (by omega) (by decide)).mono ?_; rintro e w' ⟨rfl, hb⟩; have hB := hB.trans (hb.mono hB.size)))
        go_ret
        exact ⟨by rw [hf.out]; rfl, hB⟩
    · have s3 := s1 rfl
      clear s1 s2
      go_enter Tryd.func54, Tryd.ntmps54
      go_wp2_with (first | (go_at_call 87; refine (bare_any _ _).mono ?_; rintro e w' ⟨rfl, rfl⟩) | (go_at_call 85; refine (begins_any _ _ _).mono ?_; rintro e w' ⟨rfl, rfl⟩) | (go_at_call 86; refine (only_any _ _ _ (by omega) (by decide)).mono ?_; rintro e w' ⟨rfl, hb⟩; have hB := hB.trans (hb.mono hB.size)))
      go_ret
      exact ⟨by rw [hf.out]; rfl, hB⟩
  · clear s1 s2
    go_enter Tryd.func54, Tryd.ntmps54
    go_wp2_with (first | (go_at_call 87; refine (bare_any _ _).mono ?_; rintro e w' ⟨rfl, rfl⟩) | (go_at_call 85; refine (begins_any _ _ _).mono ?_; rintro e w' ⟨rfl, rfl⟩) | (go_at_call 86; refine (only_any _ _ _ (by omega) (by decide)).mono ?_; rintro e w' ⟨rfl, hb⟩; have hB := hB.trans (hb.mono hB.size)))
    go_ret
    exact ⟨by rw [hf.out]; rfl, hB⟩
set_option maxRecDepth 100000 in
theorem fraction_any (s : ByteArray) (w : World) (hs : s.size ≤ 9223372036854775806) : Calls Tryd.prog 89 #[.string s] w fun e w' => e = .returned (.bool (fractionR s)) ∧ Below w.heap.size w w' := by
  have hle := findL_le 46 46 s.data.toList
  rw [← Lib.size_eq] at hle
  have hB := Below.refl w.heap.size w
  obtain ⟨p, hp⟩ : ∃ p, findL 46 46 s.data.toList = p := ⟨_, rfl⟩
  rw [hp] at hle
  have hf : Hid (fractionR s = if p = s.size then onlyR s digs else if p = 0 then onlyR (s.extract (p + 1) s.size) digs else onlyR (s.extract 0 p) digs && ((s.extract (p + 1) s.size).toList.isEmpty || onlyR (s.extract (p + 1) s.size) digs)) := by show _ = _; unfold fractionR; rw [hp]
  have x1 := extract_size_le s (p + 1) s.size
  have x2 := extract_size_le s 0 p
  by_cases e1 : p = s.size
  · have b1 : ((p : Int) == (s.size : Int)) = true := by simp [e1]
    have hf2 : Hid (fractionR s = onlyR s digs) := by show _ = _; rw [hf.out, if_pos e1]
    clear e1 hf
    go_enter Tryd.func89, Tryd.ntmps89
    go_wp2_with (first | (go_at_call 88; refine (find_any _ _ _ _ (by omega)).mono ?_; rintro e w' ⟨rfl, rfl⟩) | (go_at_call 86; refine (only_any _ _ _ (by omega) (by decide)).mono ?_; rintro e w' ⟨rfl, hb⟩; have hB := hB.trans (hb.mono hB.size)))
    go_ret
    exact ⟨by rw [hf2.out]; rfl, hB⟩
  · have b1 : ((p : Int) == (s.size : Int)) = false := by simp; omega
    have hlt : p < s.size := by omega
    have hw := IntWalk.i64_in ((p : Int) + 1) (by omega)
    by_cases e0 : p = 0
    · have b0 : ((p : Int) == 0) = true := by simp [e0]
      have hf2 : Hid (fractionR s = onlyR (s.extract (p + 1) s.size) digs) := by show _ = _; rw [hf.out, if_neg e1, if_pos e0]
      clear e1 e0 hf
      go_enter Tryd.func89, Tryd.ntmps89
      go_wp2_with (first | (go_at_call 88; refine (find_any _ _ _ _ (by omega)).mono ?_; rintro e w' ⟨rfl, rfl⟩) | (go_at_call 86; refine (only_any _ _ _ (by omega) (by decide)).mono ?_; rintro e w' ⟨rfl, hb⟩; have hB := hB.trans (hb.mono hB.size)))
      go_ret
      exact ⟨by rw [hf2.out]; rfl, hB⟩
    · have b0 : ((p : Int) == 0) = false := by simp; omega
      obtain ⟨v1, h1⟩ : ∃ v, onlyR (s.extract 0 p) digs = v := ⟨_, rfl⟩
      obtain ⟨v2, h2⟩ : ∃ v, (s.extract (p + 1) s.size).toList.isEmpty = v := ⟨_, rfl⟩
      have hf2 : Hid (fractionR s = (v1 && (v2 || onlyR (s.extract (p + 1) s.size) digs))) := by show _ = _; rw [hf.out, if_neg e1, if_neg e0, h1, h2]
      simp only [digs] at h1
      clear e1 e0 hf
      cases v1
      · go_enter Tryd.func89, Tryd.ntmps89
        go_wp2_with (first | (go_at_call 88; refine (find_any _ _ _ _ (by omega)).mono ?_; rintro e w' ⟨rfl, rfl⟩) | (go_at_call 86; refine (only_any _ _ _ (by omega) (by decide)).mono ?_; rintro e w' ⟨rfl, hb⟩; have hB := hB.trans (hb.mono hB.size)))
        go_ret
        exact ⟨by rw [hf2.out]; rfl, hB⟩
      · cases v2
        · go_enter Tryd.func89, Tryd.ntmps89
          go_wp2_with (first | (go_at_call 88; refine (find_any _ _ _ _ (by omega)).mono ?_; rintro e w' ⟨rfl, rfl⟩) | (go_at_call 86; refine (only_any _ _ _ (by omega) (by decide)).mono ?_; rintro e w' ⟨rfl, hb⟩; have hB := hB.trans (hb.mono hB.size)))
          go_ret
          exact ⟨by rw [hf2.out]; rfl, hB⟩
        · go_enter Tryd.func89, Tryd.ntmps89
          go_wp2_with (first | (go_at_call 88; refine (find_any _ _ _ _ (by omega)).mono ?_; rintro e w' ⟨rfl, rfl⟩) | (go_at_call 86; refine (only_any _ _ _ (by omega) (by decide)).mono ?_; rintro e w' ⟨rfl, hb⟩; have hB := hB.trans (hb.mono hB.size)))
          go_ret
          exact ⟨by rw [hf2.out]; rfl, hB⟩
set_option maxRecDepth 100000 in
theorem rfloat_any (s : ByteArray) (w : World) (hs : s.size ≤ 9223372036854775806) : Calls Tryd.prog 55 #[.string s] w fun e w' => e = .returned (.bool (floatR s)) ∧ Below w.heap.size w w' := by
  have hB := Below.refl w.heap.size w
  have y1 := signB_size s
  obtain ⟨vi, hi⟩ : ∃ v, oneR (signB s) infL = v := ⟨_, rfl⟩
  obtain ⟨vn, hn⟩ : ∃ v, oneR s nanL = v := ⟨_, rfl⟩
  cases vi
  · cases vn
    · have hf0 : Hid (floatR s = if findL 101 69 (signB s).data.toList < (signB s).size ∧ onlyR (signB ((signB s).extract (findL 101 69 (signB s).data.toList + 1) (signB s).size)) digs = false then false else fractionR ((signB s).extract 0 (findL 101 69 (signB s).data.toList))) := by
        show _ = _; unfold floatR; rw [hi, hn]; rfl
      generalize ht : signB s = t at hf0 hi y1
      have hle := findL_le 101 69 t.data.toList
      rw [← Lib.size_eq] at hle
      obtain ⟨p, hp⟩ : ∃ p, findL 101 69 t.data.toList = p := ⟨_, rfl⟩
      rw [hp] at hle
      have x1 := extract_size_le t (p + 1) t.size
      have x2 := extract_size_le t 0 p
      have x3 := signB_size (t.extract (p + 1) t.size)
      have hw := IntWalk.i64_in ((p : Int) + 1) (by omega)
      have hf1 : Hid (floatR s = if p < t.size ∧ onlyR (signB (t.extract (p + 1) t.size)) digs = false then false else fractionR (t.extract 0 p)) := by show _ = _; rw [hf0.out, hp]
      clear hf0
      by_cases hlt : p < t.size
      · obtain ⟨vo, ho⟩ : ∃ v, onlyR (signB (t.extract (p + 1) t.size)) digs = v := ⟨_, rfl⟩
        have hf2 : Hid (floatR s = if vo = false then false else fractionR (t.extract 0 p)) := by show _ = _; rw [hf1.out, ho]; simp [hlt]
        simp only [digs] at ho
        clear hf1
        cases vo
        · go_enter Tryd.func55, Tryd.ntmps55
          go_wp2_with (first | (go_at_call 87; refine (bare_any _ _).mono ?_; rintro e w' ⟨rfl, rfl⟩) | (go_at_call 88; refine (find_any _ _ _ _ (by omega)).mono ?_; rintro e w' ⟨rfl, rfl⟩) | (go_at_call 86; refine (only_any _ _ _ (by omega) (by decide)).mono ?_; rintro e w' ⟨rfl, hb⟩; have hB := hB.trans (hb.mono hB.size)) | (go_at_call 53; with_reducible refine (one_infL _ _).mono ?_; rintro e w' ⟨rfl, hb⟩; have hB := hB.trans (hb.mono hB.size)) | (go_at_call 53; with_reducible refine (one_nanL _ _).mono ?_; rintro e w' ⟨rfl, hb⟩; have hB := hB.trans (hb.mono hB.size)) | (go_at_call 89; refine (fraction_any _ _ (by omega)).mono ?_; rintro e w' ⟨rfl, hb⟩; have hB := hB.trans (hb.mono hB.size)))
          go_ret
          exact ⟨by rw [hf2.out]; rfl, hB⟩
        · go_enter Tryd.func55, Tryd.ntmps55
          go_wp2_with (first | (go_at_call 87; refine (bare_any _ _).mono ?_; rintro e w' ⟨rfl, rfl⟩) | (go_at_call 88; refine (find_any _ _ _ _ (by omega)).mono ?_; rintro e w' ⟨rfl, rfl⟩) | (go_at_call 86; refine (only_any _ _ _ (by omega) (by decide)).mono ?_; rintro e w' ⟨rfl, hb⟩; have hB := hB.trans (hb.mono hB.size)) | (go_at_call 53; with_reducible refine (one_infL _ _).mono ?_; rintro e w' ⟨rfl, hb⟩; have hB := hB.trans (hb.mono hB.size)) | (go_at_call 53; with_reducible refine (one_nanL _ _).mono ?_; rintro e w' ⟨rfl, hb⟩; have hB := hB.trans (hb.mono hB.size)) | (go_at_call 89; refine (fraction_any _ _ (by omega)).mono ?_; rintro e w' ⟨rfl, hb⟩; have hB := hB.trans (hb.mono hB.size)))
          go_ret
          exact ⟨by rw [hf2.out]; rfl, hB⟩
      · have hf2 : Hid (floatR s = fractionR (t.extract 0 p)) := by show _ = _; rw [hf1.out, if_neg (by simp [hlt])]
        clear hf1
        go_enter Tryd.func55, Tryd.ntmps55
        go_wp2_with (first | (go_at_call 87; refine (bare_any _ _).mono ?_; rintro e w' ⟨rfl, rfl⟩) | (go_at_call 88; refine (find_any _ _ _ _ (by omega)).mono ?_; rintro e w' ⟨rfl, rfl⟩) | (go_at_call 86; refine (only_any _ _ _ (by omega) (by decide)).mono ?_; rintro e w' ⟨rfl, hb⟩; have hB := hB.trans (hb.mono hB.size)) | (go_at_call 53; with_reducible refine (one_infL _ _).mono ?_; rintro e w' ⟨rfl, hb⟩; have hB := hB.trans (hb.mono hB.size)) | (go_at_call 53; with_reducible refine (one_nanL _ _).mono ?_; rintro e w' ⟨rfl, hb⟩; have hB := hB.trans (hb.mono hB.size)) | (go_at_call 89; refine (fraction_any _ _ (by omega)).mono ?_; rintro e w' ⟨rfl, hb⟩; have hB := hB.trans (hb.mono hB.size)))
        go_ret
        exact ⟨by rw [hf2.out]; rfl, hB⟩
    · have hf2 : Hid (floatR s = true) := by show _ = _; unfold floatR; rw [hi, hn]; rfl
      go_enter Tryd.func55, Tryd.ntmps55
      go_wp2_with (first | (go_at_call 87; refine (bare_any _ _).mono ?_; rintro e w' ⟨rfl, rfl⟩) | (go_at_call 88; refine (find_any _ _ _ _ (by omega)).mono ?_; rintro e w' ⟨rfl, rfl⟩) | (go_at_call 86; refine (only_any _ _ _ (by omega) (by decide)).mono ?_; rintro e w' ⟨rfl, hb⟩; have hB := hB.trans (hb.mono hB.size)) | (go_at_call 53; with_reducible refine (one_infL _ _).mono ?_; rintro e w' ⟨rfl, hb⟩; have hB := hB.trans (hb.mono hB.size)) | (go_at_call 53; with_reducible refine (one_nanL _ _).mono ?_; rintro e w' ⟨rfl, hb⟩; have hB := hB.trans (hb.mono hB.size)) | (go_at_call 89; refine (fraction_any _ _ (by omega)).mono ?_; rintro e w' ⟨rfl, hb⟩; have hB := hB.trans (hb.mono hB.size)))
      go_ret
      exact ⟨by rw [hf2.out]; rfl, hB⟩
  · have hf2 : Hid (floatR s = true) := by show _ = _; unfold floatR; rw [hi]; rfl
    go_enter Tryd.func55, Tryd.ntmps55
    go_wp2_with (first | (go_at_call 87; refine (bare_any _ _).mono ?_; rintro e w' ⟨rfl, rfl⟩) | (go_at_call 88; refine (find_any _ _ _ _ (by omega)).mono ?_; rintro e w' ⟨rfl, rfl⟩) | (go_at_call 86; refine (only_any _ _ _ (by omega) (by decide)).mono ?_; rintro e w' ⟨rfl, hb⟩; have hB := hB.trans (hb.mono hB.size)) | (go_at_call 53; with_reducible refine (one_infL _ _).mono ?_; rintro e w' ⟨rfl, hb⟩; have hB := hB.trans (hb.mono hB.size)) | (go_at_call 53; with_reducible refine (one_nanL _ _).mono ?_; rintro e w' ⟨rfl, hb⟩; have hB := hB.trans (hb.mono hB.size)) | (go_at_call 89; refine (fraction_any _ _ (by omega)).mono ?_; rintro e w' ⟨rfl, hb⟩; have hB := hB.trans (hb.mono hB.size)))
    go_ret
    exact ⟨by rw [hf2.out]; rfl, hB⟩
set_option maxRecDepth 100000 in
theorem rresolve_any (s : ByteArray) (w : World) (hs : s.size ≤ 9223372036854775806) : Calls Tryd.prog 28 #[.string s] w fun e w' => e = .returned (.string (resolveR s)) ∧ Below w.heap.size w w' := by
  have hB := Below.refl w.heap.size w
  obtain ⟨v1, h1⟩ : ∃ v, oneR s nullL = v := ⟨_, rfl⟩
  obtain ⟨v2, h2⟩ : ∃ v, oneR s boolL = v := ⟨_, rfl⟩
  obtain ⟨v3, h3⟩ : ∃ v, wholeR s = v := ⟨_, rfl⟩
  obtain ⟨v4, h4⟩ : ∃ v, floatR s = v := ⟨_, rfl⟩
  have hf : Hid (resolveR s = if v1 then tNull else if v2 then tBool else if v3 then tInt else if v4 then tFloat else tStr) := by show _ = _; rw [resolveR, h1, h2, h3, h4]
  cases v1
  · cases v2
    · cases v3
      · cases v4
        all_goals
          go_enter Tryd.func28, Tryd.ntmps28
          go_wp2_with (first | (go_at_call 53; with_reducible refine (one_nullL _ _).mono ?_; rintro e w' ⟨rfl, hb⟩; have hB := hB.trans (hb.mono hB.size)) | (go_at_call 53; with_reducible refine (one_boolL _ _).mono ?_; rintro e w' ⟨rfl, hb⟩; have hB := hB.trans (hb.mono hB.size)) | (go_at_call 54; refine (rwhole_any _ _ (by omega)).mono ?_; rintro e w' ⟨rfl, hb⟩; have hB := hB.trans (hb.mono hB.size)) | (go_at_call 55; refine (rfloat_any _ _ (by omega)).mono ?_; rintro e w' ⟨rfl, hb⟩; have hB := hB.trans (hb.mono hB.size)))
          go_ret
          exact ⟨by rw [hf.out]; rfl, hB⟩
      · go_enter Tryd.func28, Tryd.ntmps28
        go_wp2_with (first | (go_at_call 53; with_reducible refine (one_nullL _ _).mono ?_; rintro e w' ⟨rfl, hb⟩; have hB := hB.trans (hb.mono hB.size)) | (go_at_call 53; with_reducible refine (one_boolL _ _).mono ?_; rintro e w' ⟨rfl, hb⟩; have hB := hB.trans (hb.mono hB.size)) | (go_at_call 54; refine (rwhole_any _ _ (by omega)).mono ?_; rintro e w' ⟨rfl, hb⟩; have hB := hB.trans (hb.mono hB.size)) | (go_at_call 55; refine (rfloat_any _ _ (by omega)).mono ?_; rintro e w' ⟨rfl, hb⟩; have hB := hB.trans (hb.mono hB.size)))
        go_ret
        exact ⟨by rw [hf.out]; rfl, hB⟩
    · go_enter Tryd.func28, Tryd.ntmps28
      go_wp2_with (first | (go_at_call 53; with_reducible refine (one_nullL _ _).mono ?_; rintro e w' ⟨rfl, hb⟩; have hB := hB.trans (hb.mono hB.size)) | (go_at_call 53; with_reducible refine (one_boolL _ _).mono ?_; rintro e w' ⟨rfl, hb⟩; have hB := hB.trans (hb.mono hB.size)) | (go_at_call 54; refine (rwhole_any _ _ (by omega)).mono ?_; rintro e w' ⟨rfl, hb⟩; have hB := hB.trans (hb.mono hB.size)) | (go_at_call 55; refine (rfloat_any _ _ (by omega)).mono ?_; rintro e w' ⟨rfl, hb⟩; have hB := hB.trans (hb.mono hB.size)))
      go_ret
      exact ⟨by rw [hf.out]; rfl, hB⟩
  · go_enter Tryd.func28, Tryd.ntmps28
    go_wp2_with (first | (go_at_call 53; with_reducible refine (one_nullL _ _).mono ?_; rintro e w' ⟨rfl, hb⟩; have hB := hB.trans (hb.mono hB.size)) | (go_at_call 53; with_reducible refine (one_boolL _ _).mono ?_; rintro e w' ⟨rfl, hb⟩; have hB := hB.trans (hb.mono hB.size)) | (go_at_call 54; refine (rwhole_any _ _ (by omega)).mono ?_; rintro e w' ⟨rfl, hb⟩; have hB := hB.trans (hb.mono hB.size)) | (go_at_call 55; refine (rfloat_any _ _ (by omega)).mono ?_; rintro e w' ⟨rfl, hb⟩; have hB := hB.trans (hb.mono hB.size)))
    go_ret
    exact ⟨by rw [hf.out]; rfl, hB⟩
set_option maxRecDepth 100000 in
theorem rcore_any (s : ByteArray) (w : World) : Calls Tryd.prog 27 #[.string s] w fun e w' => e = .returned (.bool (coreR s)) ∧ Below w.heap.size w w' := by
  have hB := Below.refl w.heap.size w
  have hf : Hid (coreR s = oneR s coreL) := rfl
  go_enter Tryd.func27, Tryd.ntmps27
  go_wp2_with (first | (go_at_call 53; with_reducible refine (one_coreL _ _).mono ?_; rintro e w' ⟨rfl, hb⟩; have hB := hB.trans (hb.mono hB.size)))
  go_ret
  exact ⟨by rw [hf.out]; rfl, hB⟩
set_option maxRecDepth 100000 in
theorem rown_any (s : ByteArray) (w : World) (hs : s.size ≤ 9223372036854775806) : Calls Tryd.prog 52 #[.string s] w fun e w' => e = .returned (.bool (ownR s)) ∧ Below w.heap.size w w' := by
  have hB := Below.refl w.heap.size w
  have x1 := extract_size_le s 1 s.size
  obtain ⟨v1, h1⟩ : ∃ v, Lib.hasPrefix s.data.toList [33] = v := ⟨_, rfl⟩
  have hf : Hid (ownR s = (v1 && (decide (s.size ≤ 41) && onlyR (s.extract 1 s.size) nameset))) := by show _ = _; rw [ownR, h1]
  cases v1
  · go_enter Tryd.func52, Tryd.ntmps52
    go_wp2_with (first | (go_at_call 85; refine (begins_any _ _ _).mono ?_; rintro e w' ⟨rfl, rfl⟩) | (go_at_call 86; refine (only_any _ _ _ (by omega) (by decide)).mono ?_; rintro e w' ⟨rfl, hb⟩; have hB := hB.trans (hb.mono hB.size)))
    go_ret
    exact ⟨by rw [hf.out]; rfl, hB⟩
  · have h0 := prefix_size h1
    simp only [List.length_cons, List.length_nil] at h0
    by_cases h41 : s.size ≤ 41
    · go_enter Tryd.func52, Tryd.ntmps52
      go_wp2_with (first | (go_at_call 85; refine (begins_any _ _ _).mono ?_; rintro e w' ⟨rfl, rfl⟩) | (go_at_call 86; refine (only_any _ _ _ (by omega) (by decide)).mono ?_; rintro e w' ⟨rfl, hb⟩; have hB := hB.trans (hb.mono hB.size)))
      go_ret
      exact ⟨by rw [hf.out]; simp [h41, nameset], hB⟩
    · go_enter Tryd.func52, Tryd.ntmps52
      go_wp2_with (first | (go_at_call 85; refine (begins_any _ _ _).mono ?_; rintro e w' ⟨rfl, rfl⟩) | (go_at_call 86; refine (only_any _ _ _ (by omega) (by decide)).mono ?_; rintro e w' ⟨rfl, hb⟩; have hB := hB.trans (hb.mono hB.size)))
      go_ret
      exact ⟨by rw [hf.out]; simp [h41], hB⟩
set_option maxRecDepth 100000 in
theorem rright_any (s : ByteArray) (w : World) (hs : s.size ≤ 9223372036854775806) : Calls Tryd.prog 26 #[.string s] w fun e w' => e = .returned (.bool (rightR s)) ∧ Below w.heap.size w w' := by
  have hB := Below.refl w.heap.size w
  obtain ⟨v1, h1⟩ : ∃ v, coreR s = v := ⟨_, rfl⟩
  have hf : Hid (rightR s = (v1 || ownR s)) := by show _ = _; rw [rightR, h1]
  cases v1
  all_goals
    go_enter Tryd.func26, Tryd.ntmps26
    go_wp2_with (first | (go_at_call 27; refine (rcore_any _ _).mono ?_; rintro e w' ⟨rfl, hb⟩; have hB := hB.trans (hb.mono hB.size)) | (go_at_call 52; refine (rown_any _ _ (by omega)).mono ?_; rintro e w' ⟨rfl, hb⟩; have hB := hB.trans (hb.mono hB.size)) | (go_at_call 28; refine (rresolve_any _ _ (by omega)).mono ?_; rintro e w' ⟨rfl, hb⟩; have hB := hB.trans (hb.mono hB.size)) | (go_at_call 53; with_reducible refine (one_plainL _ _).mono ?_; rintro e w' ⟨rfl, hb⟩; have hB := hB.trans (hb.mono hB.size)))
    go_ret
    exact ⟨by rw [hf.out]; rfl, hB⟩
set_option maxRecDepth 100000 in
theorem rfits_any (t s : ByteArray) (w : World) (ht : t.size ≤ 9223372036854775806) (hs : s.size ≤ 9223372036854775806) : Calls Tryd.prog 29 #[.string t, .string s] w fun e w' => e = .returned (.bool (fitsR t s)) ∧ Below w.heap.size w w' := by
  have hB := Below.refl w.heap.size w
  obtain ⟨v1, h1⟩ : ∃ v, (t.toList == [115, 116, 114]) = v := ⟨_, rfl⟩
  obtain ⟨v2, h2⟩ : ∃ v, ownR t = v := ⟨_, rfl⟩
  obtain ⟨v3, h3⟩ : ∃ v, oneR t plainL = v := ⟨_, rfl⟩
  obtain ⟨v4, h4⟩ : ∃ v, ((resolveR s).toList == t.toList) = v := ⟨_, rfl⟩
  obtain ⟨v5, h5⟩ : ∃ v, (t.toList == [102, 108, 111, 97, 116]) = v := ⟨_, rfl⟩
  have hf : Hid (fitsR t s = if v1 || v2 then true else v3 && (v4 || (v5 && (resolveR s).toList == [105, 110, 116]))) := by show _ = _; rw [fitsR, h1, h2, h3, h4, h5]
  cases v1
  · cases v2
    · cases v3
      · go_enter Tryd.func29, Tryd.ntmps29
        go_wp2_with (first | (go_at_call 27; refine (rcore_any _ _).mono ?_; rintro e w' ⟨rfl, hb⟩; have hB := hB.trans (hb.mono hB.size)) | (go_at_call 52; refine (rown_any _ _ (by omega)).mono ?_; rintro e w' ⟨rfl, hb⟩; have hB := hB.trans (hb.mono hB.size)) | (go_at_call 28; refine (rresolve_any _ _ (by omega)).mono ?_; rintro e w' ⟨rfl, hb⟩; have hB := hB.trans (hb.mono hB.size)) | (go_at_call 53; with_reducible refine (one_plainL _ _).mono ?_; rintro e w' ⟨rfl, hb⟩; have hB := hB.trans (hb.mono hB.size)))
        go_ret
        exact ⟨by rw [hf.out]; rfl, hB⟩
      · cases v4
        · cases v5
          all_goals
            go_enter Tryd.func29, Tryd.ntmps29
            go_wp2_with (first | (go_at_call 27; refine (rcore_any _ _).mono ?_; rintro e w' ⟨rfl, hb⟩; have hB := hB.trans (hb.mono hB.size)) | (go_at_call 52; refine (rown_any _ _ (by omega)).mono ?_; rintro e w' ⟨rfl, hb⟩; have hB := hB.trans (hb.mono hB.size)) | (go_at_call 28; refine (rresolve_any _ _ (by omega)).mono ?_; rintro e w' ⟨rfl, hb⟩; have hB := hB.trans (hb.mono hB.size)) | (go_at_call 53; with_reducible refine (one_plainL _ _).mono ?_; rintro e w' ⟨rfl, hb⟩; have hB := hB.trans (hb.mono hB.size)))
            go_ret
            exact ⟨by rw [hf.out]; rfl, hB⟩
        · go_enter Tryd.func29, Tryd.ntmps29
          go_wp2_with (first | (go_at_call 27; refine (rcore_any _ _).mono ?_; rintro e w' ⟨rfl, hb⟩; have hB := hB.trans (hb.mono hB.size)) | (go_at_call 52; refine (rown_any _ _ (by omega)).mono ?_; rintro e w' ⟨rfl, hb⟩; have hB := hB.trans (hb.mono hB.size)) | (go_at_call 28; refine (rresolve_any _ _ (by omega)).mono ?_; rintro e w' ⟨rfl, hb⟩; have hB := hB.trans (hb.mono hB.size)) | (go_at_call 53; with_reducible refine (one_plainL _ _).mono ?_; rintro e w' ⟨rfl, hb⟩; have hB := hB.trans (hb.mono hB.size)))
          go_ret
          exact ⟨by rw [hf.out]; rfl, hB⟩
    · go_enter Tryd.func29, Tryd.ntmps29
      go_wp2_with (first | (go_at_call 27; refine (rcore_any _ _).mono ?_; rintro e w' ⟨rfl, hb⟩; have hB := hB.trans (hb.mono hB.size)) | (go_at_call 52; refine (rown_any _ _ (by omega)).mono ?_; rintro e w' ⟨rfl, hb⟩; have hB := hB.trans (hb.mono hB.size)) | (go_at_call 28; refine (rresolve_any _ _ (by omega)).mono ?_; rintro e w' ⟨rfl, hb⟩; have hB := hB.trans (hb.mono hB.size)) | (go_at_call 53; with_reducible refine (one_plainL _ _).mono ?_; rintro e w' ⟨rfl, hb⟩; have hB := hB.trans (hb.mono hB.size)))
      go_ret
      exact ⟨by rw [hf.out]; rfl, hB⟩
  · go_enter Tryd.func29, Tryd.ntmps29
    go_wp2_with (first | (go_at_call 27; refine (rcore_any _ _).mono ?_; rintro e w' ⟨rfl, hb⟩; have hB := hB.trans (hb.mono hB.size)) | (go_at_call 52; refine (rown_any _ _ (by omega)).mono ?_; rintro e w' ⟨rfl, hb⟩; have hB := hB.trans (hb.mono hB.size)) | (go_at_call 28; refine (rresolve_any _ _ (by omega)).mono ?_; rintro e w' ⟨rfl, hb⟩; have hB := hB.trans (hb.mono hB.size)) | (go_at_call 53; with_reducible refine (one_plainL _ _).mono ?_; rintro e w' ⟨rfl, hb⟩; have hB := hB.trans (hb.mono hB.size)))
    go_ret
    exact ⟨by rw [hf.out]; rfl, hB⟩
end Go.Proofs.YthkkcbfemmpfmaaDoor
