import Derived.Test.YthkkcbfemmpfmaaDoorRef3b
import Derived.Laws.RangeAny
import Derived.Laws.RangeString
set_option linter.unusedSimpArgs false
set_option linter.unusedVariables false
namespace Go.Proofs.YthkkcbfemmpfmaaDoor
open Go.RowKit Go.Lib

/-! ### the program's tags are the document's: plain lists -/
def dg (b : UInt8) : Bool := decide (valI b.toNat < 10)
def onl (l : List UInt8) : Bool := l.all dg && !l.isEmpty
theorem u8_all {p : UInt8 → Prop} [DecidablePred p] (h : ∀ n : Fin 256, p (UInt8.ofNat n.val)) (b : UInt8) : p b := by
  have := h ⟨b.toNat, b.toNat_lt⟩
  simpa using this
theorem in_digs (b : UInt8) : inR digs.data.toList b = decide (valI b.toNat < 10) := u8_all (p := fun b => inR digs.data.toList b = decide (valI b.toNat < 10)) (by decide +kernel) b
theorem in_octs (b : UInt8) : inR octs.data.toList b = decide (valI b.toNat < 8) := u8_all (p := fun b => inR octs.data.toList b = decide (valI b.toNat < 8)) (by decide +kernel) b
theorem in_hexs (b : UInt8) : inR hexs.data.toList b = decide (valI b.toNat < 16) := u8_all (p := fun b => inR hexs.data.toList b = decide (valI b.toNat < 16)) (by decide +kernel) b
theorem run_all' (b : Int) (l : List UInt8) : run b l = l.length ↔ (l.all fun c => decide (valI c.toNat < b)) = true := by
  induction l with
  | nil => simp [run]
  | cons c r ih =>
    simp only [run, List.length_cons, List.all_cons]
    by_cases h : valI c.toNat < b
    · rw [if_pos h]; simp only [h, decide_true, Bool.true_and]; rw [← ih]; omega
    · rw [if_neg h]; simp [h]
theorem run_all (b : Int) (l : List UInt8) : decide (run b l = l.length) = l.all fun c => decide (valI c.toNat < b) := by
  rw [Bool.eq_iff_iff, decide_eq_true_eq]; exact run_all' b l
theorem only_all {of : ByteArray} {b : Int} (h : ∀ c, inR of.data.toList c = decide (valI c.toNat < b)) (s : ByteArray) : onlyR s of = allB b s := by
  unfold onlyR allB allL onlyL
  rw [run_all, Lib.size_eq]
  congr 1
  exact congrArg _ (funext h)
theorem only_digs (s : ByteArray) : onlyR s digs = allB 10 s := only_all in_digs s
theorem only_octs (s : ByteArray) : onlyR s octs = allB 8 s := only_all in_octs s
theorem only_hexs (s : ByteArray) : onlyR s hexs = allB 16 s := only_all in_hexs s
theorem all_onl (s : ByteArray) : allB 10 s = onl s.data.toList := by
  unfold allB allL onl
  rw [run_all]
  congr 1
  cases s.data.toList <;> simp
def signL : List UInt8 → List UInt8
  | [] => []
  | c :: r => if isSign (c.toNat : Int) then r else c :: r
theorem signB_data (s : ByteArray) : (signB s).data.toList = signL s.data.toList := by
  unfold signB
  by_cases h : 0 < s.size
  · rw [dif_pos h]
    have hd := getD_byte s 0 h
    simp only [List.drop_zero, Nat.zero_add] at hd
    rw [hd, signL]
    split
    · rw [extract_mk', mk_data, hd, List.drop_one, List.tail_cons]
    · exact hd
  · rw [dif_neg h]
    have : s.data.toList = [] := by rw [← List.length_eq_zero_iff, ← Lib.size_eq]; omega
    rw [this, signL]
theorem run_drop (l : List UInt8) : l.drop (run 10 l) = [] ∨ ∃ c r, l.drop (run 10 l) = c :: r ∧ dg c = false := by
  induction l with
  | nil => exact .inl rfl
  | cons c r ih =>
    simp only [run]
    by_cases h : valI c.toNat < 10
    · rw [if_pos h, List.drop_succ_cons]; exact ih
    · rw [if_neg h]; exact .inr ⟨c, r, rfl, by simp [dg, h]⟩
theorem run_take (l : List UInt8) : (l.take (run 10 l)).all dg = true := by
  induction l with
  | nil => rfl
  | cons c r ih =>
    simp only [run]
    by_cases h : valI c.toNat < 10
    · rw [if_pos h, List.take_succ_cons, List.all_cons, ih]; simp [dg, h]
    · rw [if_neg h]; rfl
theorem run_app (d r : List UInt8) (hd : d.all dg = true) (hr : r = [] ∨ ∃ c q, r = c :: q ∧ dg c = false) : run 10 (d ++ r) = d.length := by
  induction d with
  | nil =>
    rcases hr with rfl | ⟨c, q, rfl, hc⟩
    · rfl
    · simp only [dg, decide_eq_false_iff_not] at hc
      simp [run, hc]
  | cons c d ih =>
    simp only [List.all_cons, Bool.and_eq_true, dg, decide_eq_true_eq] at hd
    rw [List.cons_append, run, if_pos hd.1, ih hd.2, List.length_cons]
theorem dg_not (b : UInt8) (h : dg b = true) : b.toNat ≠ 46 ∧ b.toNat ≠ 101 ∧ b.toNat ≠ 69 ∧ b.toNat ≠ 43 ∧ b.toNat ≠ 45 := by
  revert h
  exact u8_all (p := fun b => dg b = true → b.toNat ≠ 46 ∧ b.toNat ≠ 101 ∧ b.toNat ≠ 69 ∧ b.toNat ≠ 43 ∧ b.toNat ≠ 45) (by decide +kernel) b
theorem find_app (a b : Int) (d r : List UInt8) (h : ∀ c ∈ d, (c.toNat : Int) ≠ a ∧ (c.toNat : Int) ≠ b) : findL a b (d ++ r) = d.length + findL a b r := by
  induction d with
  | nil => simp
  | cons c d ih =>
    have hc := h c (by simp)
    rw [List.cons_append, findL, if_neg (by simp [hc]), ih (fun x hx => h x (by simp [hx])), List.length_cons]
    omega
theorem digits_find (d r : List UInt8) (hd : d.all dg = true) : findL 46 46 (d ++ r) = d.length + findL 46 46 r ∧ findL 101 69 (d ++ r) = d.length + findL 101 69 r := by
  have h : ∀ c ∈ d, c.toNat ≠ 46 ∧ c.toNat ≠ 101 ∧ c.toNat ≠ 69 := fun c hc => by
    have := dg_not c (List.all_eq_true.1 hd c hc); exact ⟨this.1, this.2.1, this.2.2.1⟩
  exact ⟨find_app _ _ _ _ (fun c hc => by have := h c hc; omega), find_app _ _ _ _ (fun c hc => by have := h c hc; omega)⟩
theorem onl_false {l : List UInt8} {c : UInt8} (hc : c ∈ l) (h : dg c = false) : onl l = false := by
  have : l.all dg = false := by
    rw [Bool.eq_false_iff]; intro ha
    have := List.all_eq_true.1 ha c hc
    rw [h] at this; cases this
  rw [onl, this, Bool.false_and]

def fracL (l : List UInt8) : Bool :=
  if findL 46 46 l = l.length then onl l
  else if findL 46 46 l = 0 then onl (l.drop (findL 46 46 l + 1))
  else onl (l.take (findL 46 46 l)) && ((l.drop (findL 46 46 l + 1)).isEmpty || onl (l.drop (findL 46 46 l + 1)))
def floatL (l : List UInt8) : Bool :=
  if findL 101 69 l < l.length ∧ onl (signL (l.drop (findL 101 69 l + 1))) = false then false else fracL (l.take (findL 101 69 l))
def expL : List UInt8 → Bool
  | [] => true
  | c :: r => ((c.toNat : Int) == 101 || (c.toNat : Int) == 69) && onl (signL r)
def behindL (l : List UInt8) : List UInt8 × Nat :=
  match l with
  | [] => ([], 0)
  | c :: r => if c = 46 then (r.drop (run 10 r), run 10 r) else (c :: r, 0)
def realL (l : List UInt8) : Bool :=
  if run 10 l + (behindL (l.drop (run 10 l))).2 = 0 then false else expL (behindL (l.drop (run 10 l))).1

theorem frac_digits (d : List UInt8) (hd : d.all dg = true) : fracL d = !d.isEmpty := by
  have h := (digits_find d [] hd).1
  simp only [List.append_nil, findL, Nat.add_zero] at h
  rw [fracL, if_pos h, onl, hd, Bool.true_and]
theorem drop_app (d : List UInt8) (c : UInt8) (r : List UInt8) : (d ++ c :: r).drop (d.length + 1) = r := by
  rw [List.append_cons, List.drop_left' (by simp)]
theorem frac_point (d r : List UInt8) (hd : d.all dg = true) : fracL (d ++ 46 :: r) = if d = [] then onl r else (r.isEmpty || onl r) := by
  have h := (digits_find d (46 :: r) hd).1
  have h0 : findL 46 46 (46 :: r) = 0 := by simp [findL]
  rw [h0, Nat.add_zero] at h
  rw [fracL, h, if_neg (by simp)]
  rw [drop_app]
  by_cases e : d = []
  · subst e; simp
  · have hl : d.length ≠ 0 := by simpa using e
    rw [if_neg hl, if_neg e, List.take_left' rfl, onl, hd]
    cases d
    · simp at e
    · simp
theorem frac_other (d : List UInt8) (c : UInt8) (r : List UInt8) (hd : d.all dg = true) (hc : dg c = false) (h46 : c.toNat ≠ 46) : fracL (d ++ c :: r) = false := by
  have h := (digits_find d (c :: r) hd).1
  have h0 : findL 46 46 (c :: r) = findL 46 46 r + 1 := by rw [findL, if_neg]; omega
  rw [h0] at h
  rw [fracL, h]
  by_cases e : d.length + (findL 46 46 r + 1) = (d ++ c :: r).length
  · rw [if_pos e]; exact onl_false (c := c) (by simp) hc
  · rw [if_neg e, if_neg (by omega)]
    have : c ∈ (d ++ c :: r).take (d.length + (findL 46 46 r + 1)) := by
      rw [List.take_append]
      simp
    rw [onl_false this hc, Bool.false_and]
theorem find_e (c : UInt8) (r : List UInt8) (h : c.toNat = 101 ∨ c.toNat = 69) : findL 101 69 (c :: r) = 0 := by rw [findL, if_pos]; omega
theorem find_ne (c : UInt8) (r : List UInt8) (h : ¬ (c.toNat = 101 ∨ c.toNat = 69)) : findL 101 69 (c :: r) = findL 101 69 r + 1 := by rw [findL, if_neg]; omega
theorem exp_e (c : UInt8) (r : List UInt8) (h : c.toNat = 101 ∨ c.toNat = 69) : expL (c :: r) = onl (signL r) := by
  rw [expL]
  rcases h with h | h <;> simp [h]
theorem exp_ne (c : UInt8) (r : List UInt8) (h : ¬ (c.toNat = 101 ∨ c.toNat = 69)) : expL (c :: r) = false := by
  rw [expL]
  have h1 : ((c.toNat : Int) == 101) = false := by simp; omega
  have h2 : ((c.toNat : Int) == 69) = false := by simp; omega
  rw [h1, h2]; rfl
theorem len_eq (d : List UInt8) : (d.length = 0) ↔ d = [] := List.length_eq_zero_iff

theorem float_real (l : List UInt8) : floatL l = realL l := by
  have hs : l = l.take (run 10 l) ++ l.drop (run 10 l) := (List.take_append_drop _ _).symm
  have hd := run_take l
  have hr := run_drop l
  generalize l.take (run 10 l) = d at hs hd
  generalize hrest : l.drop (run 10 l) = rest at hs hr
  have hrun : run 10 l = d.length := by rw [hs]; exact run_app d rest hd hr
  rw [realL, hrest, hrun]
  rcases hr with rfl | ⟨c, q, rfl, hc⟩
  · -- digits alone
    rw [List.append_nil] at hs
    subst hs
    have he : findL 101 69 l = l.length := by have := (digits_find l [] hd).2; simpa [findL] using this
    rw [floatL, he, if_neg (by simp), List.take_length, frac_digits l hd]
    simp only [behindL, expL, Nat.add_zero]
    cases l <;> simp
  · have hef := (digits_find d (c :: q) hd).2
    rw [← hs] at hef
    by_cases hce : c.toNat = 101 ∨ c.toNat = 69
    · -- digits and a power
      rw [find_e c q hce, Nat.add_zero] at hef
      have h46 : ¬ c = 46 := by rintro rfl; revert hce; decide
      rw [floatL, hef]
      rw [hs, drop_app, List.take_left' rfl, frac_digits d hd]
      simp only [behindL, if_neg h46, Nat.add_zero]
      rw [exp_e c q hce]
      cases ho : onl (signL q)
      · rw [if_pos (by simp)]; simp
      · rw [if_neg (by simp)]; cases d <;> simp
    · rw [find_ne c q hce] at hef
      by_cases h46 : c = 46
      · subst h46
        simp only [behindL, if_true]
        have hs2 : q = q.take (run 10 q) ++ q.drop (run 10 q) := (List.take_append_drop _ _).symm
        have hd2 := run_take q
        have hr2 := run_drop q
        generalize q.take (run 10 q) = d2 at hs2 hd2
        generalize hrest2 : q.drop (run 10 q) = rest2 at hs2 hr2
        have hrun2 : run 10 q = d2.length := by rw [hs2]; exact run_app d2 rest2 hd2 hr2
        rw [hrun2]
        rcases hr2 with rfl | ⟨c2, q2, rfl, hc2⟩
        · rw [List.append_nil] at hs2
          subst hs2
          have he2 : findL 101 69 q = q.length := by have := (digits_find q [] hd2).2; simpa [findL] using this
          rw [he2] at hef
          have hlen : l.length = d.length + (q.length + 1) := by rw [hs]; simp
          rw [floatL, hef, if_neg (by omega), List.take_of_length_le (by omega), hs, frac_point d q hd]
          simp only [expL]
          cases d
          · cases q <;> simp [onl, hd2] at *
            all_goals simp_all
          · cases q <;> simp_all [onl]
        · have hef2 := (digits_find d2 (c2 :: q2) hd2).2
          rw [← hs2] at hef2
          by_cases hce2 : c2.toNat = 101 ∨ c2.toNat = 69
          · rw [find_e c2 q2 hce2, Nat.add_zero] at hef2
            rw [hef2] at hef
            have hl2 : l = (d ++ 46 :: d2) ++ c2 :: q2 := by rw [hs, hs2]; simp
            have hlen : (d ++ 46 :: d2).length = d.length + (d2.length + 1) := by simp
            rw [floatL, hef, ← hlen]
            rw [hl2, drop_app, List.take_left' rfl, frac_point d d2 hd]
            rw [exp_e c2 q2 hce2]
            cases ho : onl (signL q2)
            · rw [if_pos (by simp)]; simp
            · rw [if_neg (by simp)]
              cases d <;> cases d2 <;> simp_all [onl]
          · rw [find_ne c2 q2 hce2] at hef2
            rw [exp_ne c2 q2 hce2]
            have hfr : fracL (l.take (findL 101 69 l)) = false := by
              rw [hef, hef2, hs, List.take_append, List.take_of_length_le (by omega), show d.length + (d2.length + (findL 101 69 q2 + 1) + 1) - d.length = d2.length + (findL 101 69 q2 + 1) + 1 from by omega, List.take_succ_cons, frac_point d _ hd]
              have hm : c2 ∈ q.take (d2.length + (findL 101 69 q2 + 1)) := by
                rw [hs2, List.take_append]
                simp
              have hne : (q.take (d2.length + (findL 101 69 q2 + 1))).isEmpty = false := by
                cases hq : q.take (d2.length + (findL 101 69 q2 + 1))
                · rw [hq] at hm; cases hm
                · rfl
              rw [onl_false hm hc2, hne]
              simp
            rw [floatL, hfr]
            simp
      · simp only [behindL, if_neg h46, Nat.add_zero]
        rw [exp_ne c q hce]
        have h46' : c.toNat ≠ 46 := fun e => h46 (UInt8.toNat_inj.1 (by rw [e]; rfl))
        have hfr : fracL (l.take (findL 101 69 l)) = false := by
          rw [hef, hs, List.take_append, List.take_of_length_le (by omega), show d.length + (findL 101 69 q + 1) - d.length = findL 101 69 q + 1 from by omega, List.take_succ_cons]
          exact frac_other d c _ hd hc h46'
        rw [floatL, hfr]
        simp

/-! ### and the words -/
theorem data_extract (s : ByteArray) (a b : Nat) : (s.extract a b).data.toList = (s.data.toList.drop a).take (b - a) := by
  rw [← ByteArray.toList_eq, Lib.extract_toList]
theorem data_drop (s : ByteArray) (a : Nat) : (s.extract a s.size).data.toList = s.data.toList.drop a := by
  rw [data_extract, List.take_of_length_le (by rw [List.length_drop, ← Lib.size_eq]; exact Nat.le_refl _)]
theorem take_drop_len (l : List UInt8) (k : Nat) : (l.drop k).take (l.length - k) = l.drop k := List.take_of_length_le (by rw [List.length_drop]; exact Nat.le_refl _)
theorem empty_data (s : ByteArray) : s.toList.isEmpty = s.data.toList.isEmpty := by rw [ByteArray.toList_eq]
theorem fracR_eq (s : ByteArray) : fractionR s = fracL s.data.toList := by
  unfold fractionR fracL
  simp only [only_digs, all_onl, data_drop, data_extract, empty_data, Lib.size_eq, List.drop_zero, Nat.sub_zero, take_drop_len]
theorem floatR_eq (s : ByteArray) : floatR s = if oneR (signB s) infL || oneR s nanL then true else floatL (signB s).data.toList := by
  unfold floatR floatL
  simp only [fracR_eq, only_digs, all_onl, signB_data, data_drop, data_extract, Lib.size_eq, List.drop_zero, Nat.sub_zero, take_drop_len]
theorem realB_eq (s : ByteArray) : realB s = realL (signB s).data.toList := by
  unfold realB realL
  generalize (signB s).data.toList = l
  have hb : ∀ l : List UInt8, (behindB (mk l)).2 = (behindL l).2 ∧ (behindB (mk l)).1.data.toList = (behindL l).1 := by
    intro l
    unfold behindB
    rw [mk_data]
    cases l with
    | nil => simp [behindL, Lib.hasPrefix, mk_data]
    | cons c r =>
      by_cases h : c = 46
      · subst h
        simp [behindL, Lib.hasPrefix, mk_data]
      · have : Lib.hasPrefix (c :: r) [46] = false := by
          simp [Lib.hasPrefix, List.isPrefixOf]; exact fun e => h e.symm
        rw [this]
        simp [behindL, h, mk_data]
  have he : ∀ s : ByteArray, expB s = expL s.data.toList := by
    intro s
    unfold expB
    by_cases h : 0 < s.size
    · rw [dif_pos h]
      have hd := getD_byte s 0 h
      simp only [List.drop_zero, Nat.zero_add] at hd
      rw [all_onl, signB_data, mk_data]
      conv => rhs; rw [hd]
      rw [expL]
    · rw [dif_neg h]
      have : s.data.toList = [] := by rw [← List.length_eq_zero_iff, ← Lib.size_eq]; omega
      rw [this, expL]
  rw [he, (hb _).1, (hb _).2]
  have : ((run 10 l : Int) + ((behindL (l.drop (run 10 l))).2 : Int) = 0) = (run 10 l + (behindL (l.drop (run 10 l))).2 = 0) := by
    apply propext; omega
  simp only [this]
theorem any_beq (s : ByteArray) (l : List ByteArray) : oneR s l = (l.map fun x => s.data.toList == x.data.toList).any id := by
  unfold oneR
  rw [List.any_map]
  congr 1
  funext x
  simp only [ByteArray.toList_eq, Function.comp, id]
  rw [Bool.eq_iff_iff, beq_iff_eq, beq_iff_eq]; exact eq_comm
theorem one_null (s : ByteArray) : oneR s nullL = nullS s := by
  rw [any_beq]; unfold nullS nullL; simp only [ByteArray.toList_eq, List.map_cons, List.map_nil, List.any_cons, List.any_nil, id, Bool.or_false, Bool.or_assoc]
  congr 1
  cases s.data.toList <;> rfl
theorem one_bool (s : ByteArray) : oneR s boolL = boolS s := by
  rw [any_beq]; unfold boolS boolL; simp only [ByteArray.toList_eq, List.map_cons, List.map_nil, List.any_cons, List.any_nil, id, Bool.or_false, Bool.or_assoc]
theorem one_inf (s : ByteArray) : oneR s infL = infS s := by
  rw [any_beq]; unfold infS infL; simp only [ByteArray.toList_eq, List.map_cons, List.map_nil, List.any_cons, List.any_nil, id, Bool.or_false, Bool.or_assoc]
theorem one_nan (s : ByteArray) : oneR s nanL = nanS s := by
  rw [any_beq]; unfold nanS nanL; simp only [ByteArray.toList_eq, List.map_cons, List.map_nil, List.any_cons, List.any_nil, id, Bool.or_false, Bool.or_assoc]
theorem one_plain' (s : ByteArray) : oneR s plainL = plainB s := by
  rw [any_beq]; unfold plainB plainL; simp only [tNull, tBool, tInt, tFloat, ByteArray.toList_eq, List.map_cons, List.map_nil, List.any_cons, List.any_nil, id, Bool.or_false, Bool.or_assoc]
theorem core_eq (s : ByteArray) : coreR s = coreB s := by
  unfold coreR coreB plainB
  rw [any_beq]; unfold coreL; simp only [tNull, tBool, tInt, tFloat, tStr, tSeq, tMap, ByteArray.toList_eq, List.map_cons, List.map_nil, List.any_cons, List.any_nil, id, Bool.or_false]
  generalize s.data.toList = l
  simp only [Bool.or_assoc]
  ac_rfl
theorem wholeR_eq (s : ByteArray) : wholeR s = wholeB s := by
  unfold wholeR wholeB
  rw [only_digs, only_octs, only_hexs, extract_mk']
  have h : ∀ c : UInt8, dg c = false → isSign (c.toNat : Int) = false → Lib.hasPrefix s.data.toList [48, c] = true → allB 10 (signB s) = false := by
    intro c hc hs hp
    unfold Lib.hasPrefix at hp
    rw [List.isPrefixOf_iff_prefix] at hp
    obtain ⟨r, hr⟩ := hp
    rw [all_onl, signB_data, ← hr]
    exact onl_false (c := c) (by simp [signL, isSign]) hc
  by_cases ho : pre0o s = true
  · rw [h 111 (by decide +kernel) (by decide) ho, if_pos ho, if_pos ho]; simp
  · by_cases hx : pre0x s = true
    · rw [h 120 (by decide +kernel) (by decide) hx, if_neg ho, if_neg ho, if_pos hx, hx]; simp
    · rw [if_neg ho, if_neg hx, if_neg ho]
      cases allB 10 (signB s) <;> simp_all

theorem of_toList {s : ByteArray} {l : List UInt8} (h : (s.toList == l) = true) : s = mk l := by
  rw [beq_iff_eq] at h; exact bytes_ext (by rw [mk_toList, h])
theorem nan_whole {s : ByteArray} (h : nanS s = true) : wholeB s = false := by
  unfold nanS at h
  simp only [Bool.or_eq_true] at h
  rcases h with (h | h) | h
  · rw [of_toList h]; decide +kernel
  · rw [of_toList h]; decide +kernel
  · rw [of_toList h]; decide +kernel
theorem inf_whole {s : ByteArray} (h : infS (signB s) = true) : wholeB s = false := by
  have hz : ∀ c : UInt8, Lib.hasPrefix s.data.toList [48, c] = true → False := by
    intro c hp
    unfold Lib.hasPrefix at hp
    rw [List.isPrefixOf_iff_prefix] at hp
    obtain ⟨r, hr⟩ := hp
    have hd : (signB s).data.toList = 48 :: c :: r := by rw [signB_data, ← hr]; simp [signL, isSign]
    unfold infS at h
    simp only [ByteArray.toList_eq, hd] at h
    simp at h
  have ho : pre0o s = false := by cases hq : pre0o s; rfl; exact absurd hq (fun e => hz _ e)
  have hx : pre0x s = false := by cases hq : pre0x s; rfl; exact absurd hq (fun e => hz _ e)
  unfold wholeB
  rw [ho, hx]
  simp only [Bool.false_eq_true, if_false]
  unfold infS at h
  simp only [Bool.or_eq_true] at h
  rcases h with (h | h) | h
  · rw [of_toList h]; decide +kernel
  · rw [of_toList h]; decide +kernel
  · rw [of_toList h]; decide +kernel
theorem resolve_eq (s : ByteArray) : resolveR s = resolveB s := by
  unfold resolveR resolveB
  rw [one_null, one_bool, wholeR_eq, floatR_eq, one_inf, one_nan, float_real, ← realB_eq]
  cases hn : nanS s
  · cases hi : infS (signB s)
    · simp
    · rw [inf_whole hi]; simp
  · rw [nan_whole hn]; simp
theorem idx_any (p : Nat → Bool) (hp : ∀ r, 128 ≤ r → p r = true) (s : ByteArray) : ∀ f pos, s.size - pos ≤ f → decide (0 ≤ Lib.idxFuncFrom p true s f pos) = (s.data.toList.drop pos).any fun b => p b.toNat
  | 0, pos, h => by
    rw [List.drop_of_length_le (by rw [← Lib.size_eq]; omega)]; rfl
  | f + 1, pos, h => by
    unfold Lib.idxFuncFrom
    by_cases hl : pos < s.size
    · rw [if_pos hl, getD_byte s pos hl, List.any_cons]
      by_cases ha : s[pos].toNat < 128
      · rw [decode_ascii s pos hl ha]
        simp only
        cases hq : p s[pos].toNat
        · rw [if_neg (by simp), Bool.false_or]
          exact idx_any p hp s f (pos + 1) (by omega)
        · rw [if_pos rfl]; simp
      · have hd := decode_high s pos hl (by omega)
        rw [if_pos (hp _ hd.1), hp _ (by omega)]; simp
    · rw [if_neg hl, List.drop_of_length_le (by rw [← Lib.size_eq]; omega)]; rfl
theorem idx_bytes (p : Nat → Bool) (hp : ∀ r, 128 ≤ r → p r = true) (s : ByteArray) : decide (0 ≤ Lib.idxFunc p true s) = s.data.toList.any fun b => p b.toNat := by
  unfold Lib.idxFunc
  rw [idx_any p hp s s.size 0 (by omega), List.drop_zero]
theorem in_nameset (b : UInt8) : inR nameset.data.toList b = namedN b.toNat := u8_all (p := fun b => inR nameset.data.toList b = namedN b.toNat) (by decide +kernel) b
theorem strange_eq (s : ByteArray) : strange s = !(s.data.toList.all fun b => namedN b.toNat) := by
  unfold strange
  rw [idx_bytes _ (fun r hr => by simp only [namedN, Bool.not_eq_true', Bool.or_eq_false_iff, Bool.and_eq_false_iff, decide_eq_false_iff_not]; omega), List.all_eq_not_any_not, Bool.not_not]
theorem own_eq (s : ByteArray) : ownR s = ownB s := by
  unfold ownR ownB
  cases hp : Lib.hasPrefix s.data.toList [33]
  · rfl
  · have h1 := prefix_size hp
    simp only [List.length_cons, List.length_nil] at h1
    simp only [Bool.true_and]
    rw [strange_eq, mk_data, Bool.not_not, onlyR, data_drop, onlyL, Lib.size_eq (s.extract 1 s.size), data_drop, List.length_drop, ← Lib.size_eq]
    have : (inR nameset.data.toList) = fun b => namedN b.toNat := funext in_nameset
    rw [this]
    generalize (List.drop 1 s.data.toList).all (fun b => namedN b.toNat) = v
    cases v
    · simp
    · rw [Bool.eq_iff_iff]
      simp only [Bool.and_eq_true, decide_eq_true_eq, true_and, and_true]
      omega
theorem right_eq (s : ByteArray) : rightR s = rightB s := by unfold rightR rightB; rw [core_eq, own_eq]
theorem plain_not {t : ByteArray} (h : plainB t = true) : (t.toList == [115, 116, 114]) = false ∧ ownB t = false := by
  unfold plainB at h
  simp only [Bool.or_eq_true] at h
  rcases h with ((h | h) | h) | h <;> rw [of_toList h] <;> exact ⟨by decide +kernel, by unfold ownB; rw [mk_data]; rfl⟩
theorem fits_eq (t s : ByteArray) : fitsR t s = fitsB t s := by
  unfold fitsR fitsB
  rw [own_eq, one_plain', resolve_eq]
  cases hp : plainB t
  · simp only [Bool.false_and]
    cases t.toList == [115, 116, 114] <;> cases ownB t <;> rfl
  · rw [(plain_not hp).1, (plain_not hp).2]; simp
end Go.Proofs.YthkkcbfemmpfmaaDoor
