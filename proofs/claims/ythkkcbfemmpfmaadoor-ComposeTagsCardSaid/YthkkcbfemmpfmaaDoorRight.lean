import Derived.Test.YthkkcbfemmpfmaaDoorTake2
set_option linter.unusedSimpArgs false
set_option linter.unusedVariables false
namespace Go.Proofs.YthkkcbfemmpfmaaDoor
open Go.RowKit Go.Lib

def nestInv (st : List (Int × Int)) (k : Nat) : Prop := st.length ≤ k ∧ ∀ x ∈ st, 0 ≤ x.1 ∧ 0 ≤ x.2 ∧ x.2 ≤ k
theorem nestInv_take {st : List (Int × Int)} {k : Nat} (h : nestInv st k) (c : Int) : nestInv (nestTake st c).2 (k + 1) := by
  obtain ⟨hl, hx⟩ := h
  have up : ∀ s : List (Int × Int), (∀ x ∈ s, x ∈ st) → ∀ x ∈ s, 0 ≤ x.1 ∧ 0 ≤ x.2 ∧ x.2 ≤ ((k + 1 : Nat) : Int) := fun s hs x hm => by
    have := hx x (hs x hm); omega
  have pop : ∀ kd may, nestInv (popM st kd may).2 (k + 1) := by
    intro kd may
    unfold popM
    cases st with
    | nil => exact ⟨by simp, by simp⟩
    | cons y r =>
      simp only
      split
      · exact ⟨by simp only [List.length_cons] at hl; simp only; omega, up r (fun x hm => List.mem_cons_of_mem _ hm)⟩
      · exact ⟨by simp only [List.length_cons] at hl ⊢; omega, up (y :: r) (fun x hm => hm)⟩
  unfold nestTake
  split
  · refine ⟨by simp only [List.length_cons]; omega, fun x hm => ?_⟩
    rcases List.mem_cons.1 hm with rfl | hm
    · simp; omega
    · exact up st (fun _ h => h) x hm
  split
  · exact pop _ _
  split
  · exact pop _ _
  split
  · exact pop _ _
  cases st with
  | nil =>
    simp only
    split
    · rename_i hc
      refine ⟨by simp, fun x hm => ?_⟩
      obtain rfl : x = (c, 0) := by simpa using hm
      simp only [isColl, Bool.or_eq_true, beq_iff_eq] at hc
      simp only
      omega
    · exact ⟨by simp, by simp⟩
  | cons y r =>
    have hy := hx y (by simp)
    have base : ∀ x ∈ (y.1, y.2 + 1) :: r, 0 ≤ x.1 ∧ 0 ≤ x.2 ∧ x.2 ≤ ((k + 1 : Nat) : Int) := by
      intro x hm
      rcases List.mem_cons.1 hm with rfl | hm
      · simp only; omega
      · exact up r (fun x h => List.mem_cons_of_mem _ h) x hm
    simp only [List.length_cons] at hl
    simp only
    split
    · rename_i hc
      refine ⟨by simp only [List.length_cons]; omega, fun x hm => ?_⟩
      rcases List.mem_cons.1 hm with rfl | hm
      · simp only [isColl, Bool.or_eq_true, beq_iff_eq] at hc
        simp only
        omega
      · exact base x hm
    · exact ⟨by simp only [List.length_cons]; omega, base⟩

theorem take_any (base P : Nat) (st : List (Int × Int)) (k : Int) (a t x : ByteArray) (p : Bool) (w : World) (hr : NestRep base w P st) (hb : base ≤ w.heap.size) (m : Nat) (hi : nestInv st m) (hm : m ≤ 1099511627776 * 2 - 2) :
    Calls Tryd.prog 36 #[.pointer (some ⟨P, 0, none⟩), .agg #[.int .i64 k, .string a, .string t, .string x, .bool p]] w
      fun e w' => e = .returned (.bool (nestTake st k).1) ∧ NestRep base w' P (nestTake st k).2 ∧ Below base w w' := by
  cases st with
  | nil => exact take_nil base P k a t x p w hr hb
  | cons y r =>
    obtain ⟨h1, h2⟩ := hi
    simp only [List.length_cons] at h1
    exact take_cons base P y r k a t x p w hr hb (by omega) (fun z hz => ⟨(h2 z hz).1, (h2 z hz).2.1⟩) (by have := (h2 y (by simp)).2.2; omega)

def nestRun : List Ev → List (Int × Int) → Option (List (Int × Int))
  | [], st => some st
  | e :: r, st => if rightE e = true ∧ (nestTake st e.kind).1 = true then nestRun r (nestTake st e.kind).2 else none
def rightL (es : List Ev) : Bool := match nestRun es [] with
  | some [] => decide ((depthOf es).2 ≤ 40)
  | _ => false

theorem rightL_none {es : List Ev} (h : nestRun es [] = none) : rightL es = false := by simp [rightL, h]
theorem rightL_nil {es : List Ev} (h : nestRun es [] = some []) : rightL es = decide ((depthOf es).2 ≤ 40) := by simp [rightL, h]
theorem rightL_cons {es : List Ev} {y : Int × Int} {r : List (Int × Int)} (h : nestRun es [] = some (y :: r)) : rightL es = false := by simp [rightL, h]
set_option maxHeartbeats 1000000 in
set_option maxRecDepth 100000 in
theorem right_es (A : Option Addr) (n c : Nat) (es : List Ev) (w : World) (h : REv w A n es) (hT : Tabs w) :
    Calls Tryd.prog 17 #[.slice A n c] w fun e w' => e = .returned (.bool (rightL es)) ∧ Below w.heap.size w w' := by
  have hn := h.n
  have hm := h.max
  have HN : Hid (es.length = n) := hn
  have HE := hid' h
  have HT := hid' hT
  have hB0 : Below w.heap.size w (w.alloc (.cells #[.slice none 0 0] 77)) := (Below.refl _ _).alloc (Nat.le_refl _) _
  have hr0 : NestRep w.heap.size (w.alloc (.cells #[.slice none 0 0] 77)) w.heap.size [] := ⟨_, Blk.new w [.slice none 0 0] _, Nat.le_refl _, World.ownsRow_nil _ _ _ _⟩
  clear hn h hT
  go_enter Tryd.func17, Tryd.ntmps17
  go_wp2_with fail
  go_loopw [10] (fun i wr => ∃ (k : Nat) (st : List (Int × Int)), k ≤ n ∧ i = .int .i64 k ∧ Hid (NestRep w.heap.size wr w.heap.size st ∧ nestInv st k ∧ nestRun es [] = nestRun (es.drop k) st) ∧ Below w.heap.size w wr) (fun i _ => n - (intOf i).toNat)
  case atStart => exact ⟨0, [], Nat.zero_le _, rfl, ⟨hr0, ⟨by simp, by simp⟩, by simp⟩, hB0⟩
  case round =>
    obtain ⟨k, st, hk, rfl, hH, hB⟩ := hrel
    clear hB0 hr0
    by_cases hlt : k < n
    · have hk' : k < es.length := by rw [HN.out]; exact hlt
      obtain ⟨b, off, rfl, h0, h1, h2, h3, h4⟩ := (HE.out.below hB).at_ k hk'
      have hok := HE.out.ok es[k] (List.getElem_mem hk')
      have hd : es.drop k = es[k] :: es.drop (k + 1) := List.drop_eq_getElem_cons hk'
      generalize es[k] = e at h0 h1 h2 h3 h4 hok hd
      obtain ⟨κ, a, t, x, p⟩ := e
      obtain ⟨o1, o2, o3, o4, o5⟩ := hok
      simp only at h0 h1 h2 h3 h4 o1 o2 o3 o4 o5
      obtain ⟨hr, hi, hrun⟩ := hH.out
      rw [hd, nestRun] at hrun
      have hB1 : Below w.heap.size w (wr.alloc (.cells #[.int .i64 κ, .string a, .string t, .string x, .bool p] 30)) := hB.alloc hB.size _
      have hr1 := hr.below ((Below.refl _ _).alloc (Nat.le_refl _) (.cells #[.int .i64 κ, .string a, .string t, .string x, .bool p] 30))
      have hK := Blk.new wr [.int .i64 κ, .string a, .string t, .string x, .bool p] 30
      have HR := hid' hr1
      have HI := hid' hi
      have HRUN := hid' hrun
      clear hr hr1 hi hrun hd hH
      cases hre : rightE ⟨κ, a, t, x, p⟩
      · have hf := hid' (rightL_none (HRUN.out.trans (if_neg (by rw [hre]; simp))))
        go_wp2_with (go_at_call 35; refine (evright_any _ _ _ _ _ _ o5 (Utf8Tabs_below HT.out hB1)).mono ?_; rintro e w' ⟨rfl, hb⟩; have hB1 := hB1.trans (hb.mono hB1.size); have hK := hK.below hb; have kc0 := hK.cell (j := 0) rfl; have kc1 := hK.cell (j := 1) rfl; have kc2 := hK.cell (j := 2) rfl; have kc3 := hK.cell (j := 3) rfl; have kc4 := hK.cell (j := 4) rfl; have HR := hid' (HR.out.below hb))
        go_ret
        exact ⟨by rw [hf.out]; rfl, hB1⟩
      · cases htk : (nestTake st κ).1
        · have hf := hid' (rightL_none (HRUN.out.trans (if_neg (by simp [htk]))))
          go_wp2_with (first | (go_at_call 35; refine (evright_any _ _ _ _ _ _ o5 (Utf8Tabs_below HT.out hB1)).mono ?_; rintro e w' ⟨rfl, hb⟩; have hB1 := hB1.trans (hb.mono hB1.size); have hK := hK.below hb; have kc0 := hK.cell (j := 0) rfl; have kc1 := hK.cell (j := 1) rfl; have kc2 := hK.cell (j := 2) rfl; have kc3 := hK.cell (j := 3) rfl; have kc4 := hK.cell (j := 4) rfl; have HR := hid' (HR.out.below hb)) | (go_at_call 36; refine (take_any _ _ st _ _ _ _ _ _ HR.out hB1.size k HI.out (by omega)).mono ?_; rintro e w' ⟨rfl, hr2, hb2⟩; have hB2 := hB1.trans hb2))
          go_ret
          exact ⟨by rw [hf.out]; rfl, hB2⟩
        · have hf : Hid (nestRun es [] = nestRun (es.drop (k + 1)) (nestTake st κ).2) := HRUN.out.trans (if_pos ⟨hre, htk⟩)
          go_wp2_with (first | (go_at_call 35; refine (evright_any _ _ _ _ _ _ o5 (Utf8Tabs_below HT.out hB1)).mono ?_; rintro e w' ⟨rfl, hb⟩; have hB1 := hB1.trans (hb.mono hB1.size); have hK := hK.below hb; have kc0 := hK.cell (j := 0) rfl; have kc1 := hK.cell (j := 1) rfl; have kc2 := hK.cell (j := 2) rfl; have kc3 := hK.cell (j := 3) rfl; have kc4 := hK.cell (j := 4) rfl; have HR := hid' (HR.out.below hb)) | (go_at_call 36; refine (take_any _ _ st _ _ _ _ _ _ HR.out hB1.size k HI.out (by omega)).mono ?_; rintro e w' ⟨rfl, hr2, hb2⟩; have hB2 := hB1.trans hb2))
          go_roundw
          case rel => exact ⟨k + 1, (nestTake st κ).2, by omega, by go_num, ⟨hr2, nestInv_take HI.out κ, hf.out⟩, hB2⟩
          case measure => simp [intOf]; omega
    · obtain ⟨hr, hi, hrun⟩ := hH.out
      rw [List.drop_of_length_le (by rw [HN.out]; omega), nestRun] at hrun
      obtain ⟨v, v1, v2, v3⟩ := hr
      have hc := v1.cell (j := 0) rfl
      have HRUN := hid' hrun
      have HE1 := hid' (HE.out.below hB)
      rcases own_forms v3 with ⟨rfl, hl, _⟩ | ⟨g, cap, rfl, _⟩
      · have hf : Hid (rightL es = decide ((depthOf es).2 ≤ 40)) := by
          obtain rfl : st = [] := List.eq_nil_of_length_eq_zero hl
          exact rightL_nil HRUN.out
        clear hrun hi v3 hH hl
        go_wp2_with (go_at_call 37; refine (depth_any _ _ _ es _ HE1.out).mono ?_; rintro e w' ⟨rfl, hb⟩; have hB := hB.trans (hb.mono hB.size))
        go_ret
        exact ⟨by rw [hf.out]; rfl, hB⟩
      · cases st with
        | nil =>
          have hf := hid' (rightL_nil HRUN.out)
          clear hrun hi v3 hH
          simp only [List.length_nil] at hc
          go_wp2_with (go_at_call 37; refine (depth_any _ _ _ es _ HE1.out).mono ?_; rintro e w' ⟨rfl, hb⟩; have hB := hB.trans (hb.mono hB.size))
          go_ret
          exact ⟨by rw [hf.out]; rfl, hB⟩
        | cons y r =>
          have hf := hid' (rightL_cons HRUN.out)
          have h0 : ((r.length : Int) + 1 == 0) = false := by simp; omega
          clear hrun hi v3 hH
          simp only [List.length_cons] at hc
          go_wp2_with (go_at_call 37; refine (depth_any _ _ _ es _ HE1.out).mono ?_; rintro e w' ⟨rfl, hb⟩; have hB := hB.trans (hb.mono hB.size))
          go_ret
          exact ⟨by rw [hf.out]; rfl, hB⟩
end Go.Proofs.YthkkcbfemmpfmaaDoor
