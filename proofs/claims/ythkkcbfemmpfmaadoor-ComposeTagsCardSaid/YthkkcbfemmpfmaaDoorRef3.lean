import Derived.Test.YthkkcbfemmpfmaaDoorTake
set_option linter.unusedSimpArgs false
set_option linter.unusedVariables false
namespace Go.Proofs.YthkkcbfemmpfmaaDoor
open Go.RowKit Go.Lib

/-! ### the document's tags -/
def oneR (s : ByteArray) (l : List ByteArray) : Bool := l.any fun x => x.toList == s.toList
theorem one_any (s : ByteArray) (A : Option Addr) (n c : Nat) (l : List ByteArray) (w : World) (h : RRow w 1 A n (l.map Value.string)) :
    Calls Tryd.prog 53 #[.string s, .slice A n c] w fun e w' => e = .returned (.bool (oneR s l)) ∧ Below w.heap.size w w' := by
  have hl : l.length = n := by have := h.len; simp at this; omega
  have hm := h.max
  have HN := hid' hl
  have HR := hid' h
  clear hl h
  go_enter Tryd.func53, Tryd.ntmps53
  go_wp2_with fail
  go_loopw [5] (fun i wr => ∃ k : Nat, k ≤ n ∧ i = .int .i64 k ∧ Hid (oneR s l = oneR s (l.drop k)) ∧ Below w.heap.size w wr) (fun i _ => n - (intOf i).toNat)
  case atStart => exact ⟨0, Nat.zero_le _, rfl, by simp [Hid], Below.refl _ _⟩
  case round =>
    obtain ⟨k, hk, rfl, hr, hB⟩ := hrel
    by_cases hlt : k < n
    · have hk' : k < l.length := by rw [HN.out]; exact hlt
      have hd := List.drop_eq_getElem_cons hk'
      obtain ⟨b, off, rfl, hc⟩ := (HR.out.below hB).cell (by omega)
      have hck := hc k (.string l[k]) (by simp [hk'])
      have hr' : Hid (oneR s l = (l[k].toList == s.toList || oneR s (l.drop (k + 1)))) := by show _ = _; rw [hr.out, hd]; rfl
      generalize l[k] = x at hck hr'
      clear hd hc hr
      cases hx : x.toList == s.toList
      · have hr2 : Hid (oneR s l = oneR s (l.drop (k + 1))) := by show _ = _; rw [hr'.out, hx]; rfl
        clear hr'
        go_wp2_with fail
        go_roundw
        case rel => exact ⟨k + 1, by omega, by go_num, hr2, hB⟩
        case measure => simp [intOf]; omega
      · have hr2 : Hid (oneR s l = true) := by show _ = _; rw [hr'.out, hx]; rfl
        clear hr'
        go_wp2_with fail
        go_ret
        exact ⟨by rw [hr2.out]; rfl, hB⟩
    · have hr2 : Hid (oneR s l = false) := by show _ = _; rw [hr.out, List.drop_of_length_le (by rw [HN.out]; omega)]; rfl
      clear hr
      go_wp2_with fail
      go_ret
      exact ⟨by rw [hr2.out]; rfl, hB⟩

def inR (of : List UInt8) (b : UInt8) : Bool := of.any fun x => x == b
def onlyL (of l : List UInt8) : Bool := l.all (inR of)
def onlyR (s of : ByteArray) : Bool := onlyL of.data.toList s.data.toList && decide (0 < s.size)
theorem byte_beq (a b : UInt8) : (((a.toNat : Int) == (b.toNat : Int)) = (a == b)) := by
  rw [Bool.eq_iff_iff, beq_iff_eq, beq_iff_eq, Int.natCast_inj, UInt8.toNat_inj]
set_option maxRecDepth 100000 in
theorem only_any (s of : ByteArray) (w : World) (hs : s.size ≤ 9223372036854775807) (ho : of.size ≤ 9223372036854775807) :
    Calls Tryd.prog 86 #[.string s, .string of] w fun e w' => e = .returned (.bool (onlyR s of)) ∧ Below w.heap.size w w' := by
  go_enter Tryd.func86, Tryd.ntmps86
  go_wp2_with fail
  go_loopw [5] (fun i wr => ∃ k : Nat, k ≤ s.size ∧ i = .int .i64 k ∧ Hid (onlyL of.data.toList s.data.toList = onlyL of.data.toList (s.data.toList.drop k)) ∧ Below w.heap.size w wr) (fun i _ => s.size - (intOf i).toNat)
  case atStart => exact ⟨0, Nat.zero_le _, rfl, by simp [Hid], Below.refl _ _⟩
  case round =>
    obtain ⟨k, hk, rfl, hr, hB⟩ := hrel
    by_cases hlt : k < s.size
    · have hd := getD_byte s k hlt
      have hr' : Hid (onlyL of.data.toList s.data.toList = (inR of.data.toList s[k] && onlyL of.data.toList (s.data.toList.drop (k + 1)))) := by show _ = _; rw [hr.out, hd]; rfl
      clear hd hr
      go_wp2_with fail
      go_loopw [6, 7] (fun b j wq => ∃ (m : Nat) (q : Bool), m ≤ of.size ∧ j = .int .i64 m ∧ b = .bool q ∧ Hid (inR of.data.toList s[k] = (q || inR (of.data.toList.drop m) s[k])) ∧ Below w.heap.size w wq) (fun _ j _ => of.size - (intOf j).toNat)
      case atStart => exact ⟨0, false, Nat.zero_le _, rfl, rfl, by simp [Hid], hB⟩
      case round =>
        obtain ⟨m, q, hm, rfl, rfl, hq, hBq⟩ := hrel
        by_cases hml : m < of.size
        · have hd := getD_byte of m hml
          have hq' : Hid (inR of.data.toList s[k] = (q || (of[m] == s[k] || inR (of.data.toList.drop (m + 1)) s[k]))) := by show _ = _; rw [hq.out, hd]; rfl
          clear hd hq
          cases q
          · go_wp2_with fail
            go_quiet (fail)
            go_wp2_with fail
            go_roundw
            case rel => exact ⟨m + 1, of[m] == s[k], by omega, by go_num, by rw [byte_beq], by show _ = _; rw [hq'.out]; simp, hBq.trans ((below_drewN' _ _).mono hBq.size)⟩
            case measure => simp [intOf]; omega
          · go_wp2_with fail
            go_quiet (fail)
            go_wp2_with fail
            go_roundw
            case rel => exact ⟨m + 1, true, by omega, by go_num, rfl, by show _ = _; rw [hq'.out]; simp, hBq.trans ((below_drewN' _ _).mono hBq.size)⟩
            case measure => simp [intOf]; omega
        · have hq' : Hid (inR of.data.toList s[k] = q) := by
            show _ = _; rw [hq.out, List.drop_of_length_le (by rw [← Lib.size_eq]; omega)]; simp [inR]
          clear hq
          cases q
          · have hf : Hid (onlyR s of = false) := by show _ = _; simp [onlyR, hr'.out, hq'.out]
            clear hr' hq'
            go_wp2_with fail
            go_ret
            exact ⟨by rw [hf.out]; rfl, hBq⟩
          · have hf : Hid (onlyL of.data.toList s.data.toList = onlyL of.data.toList (s.data.toList.drop (k + 1))) := by show _ = _; rw [hr'.out, hq'.out]; rfl
            clear hr' hq'
            go_wp2_with fail
            go_roundw
            case rel => exact ⟨k + 1, by omega, by go_num, hf, hBq⟩
            case measure => simp [intOf]; omega
    · have hf : Hid (onlyR s of = decide (0 < s.size)) := by
        have := hr.out; rw [List.drop_of_length_le (by rw [← Lib.size_eq]; omega)] at this
        show _ = _; rw [onlyR, this]; simp [onlyL]
      clear hr
      by_cases h0 : 0 < s.size
      · have h0' := isEmpty_false h0
        go_wp2_with fail
        go_ret
        exact ⟨by rw [hf.out]; simp [h0], hB⟩
      · have h0' := isEmpty_true h0
        go_wp2_with fail
        go_ret
        exact ⟨by rw [hf.out]; simp [h0], hB⟩

theorem bare_any (s : ByteArray) (w : World) : Calls Tryd.prog 87 #[.string s] w fun e w' => e = .returned (.string (signB s)) ∧ w = w' := by
  by_cases h : 0 < s.size
  · have h0 := isEmpty_false h
    go_enter Tryd.func87, Tryd.ntmps87
    go_wp2
    all_goals go_ret
    all_goals simp_all [signB, isSign]
  · have h0 := isEmpty_true h
    go_enter Tryd.func87, Tryd.ntmps87
    go_wp2
    all_goals go_ret
    all_goals simp_all [signB]

theorem begins_any (s t : ByteArray) (w : World) : Calls Tryd.prog 85 #[.string s, .string t] w fun e w' => e = .returned (.bool (Lib.hasPrefix s.data.toList t.data.toList)) ∧ w = w' := by
  have key : ((s.extract 0 t.size).toList == t.toList) = Lib.hasPrefix s.data.toList t.data.toList := by
    rw [Lib.extract_toList, List.drop_zero, ByteArray.toList_eq, Lib.size_eq]
    unfold Lib.hasPrefix
    rw [Bool.eq_iff_iff, List.isPrefixOf_iff_prefix, List.prefix_iff_eq_take]
    simp only [beq_iff_eq, Nat.sub_zero]
    exact eq_comm
  by_cases h : t.size ≤ s.size
  · go_enter Tryd.func85, Tryd.ntmps85
    go_wp2
    all_goals go_ret
    all_goals first | exact ⟨rfl, rfl⟩ | exact ⟨by rw [← key], rfl⟩ | simp_all
  · have hf : Hid (Lib.hasPrefix s.data.toList t.data.toList = false) := by
      show _ = _
      unfold Lib.hasPrefix
      rw [Bool.eq_false_iff, ne_eq, List.isPrefixOf_iff_prefix]
      intro hp
      have := hp.length_le
      rw [← Lib.size_eq, ← Lib.size_eq] at this
      omega
    clear key
    go_enter Tryd.func85, Tryd.ntmps85
    go_wp2
    all_goals go_ret
    all_goals exact ⟨by rw [hf.out]; rfl, rfl⟩

def findL (a b : Int) : List UInt8 → Nat
  | [] => 0
  | c :: r => if (c.toNat : Int) = a ∨ (c.toNat : Int) = b then 0 else findL a b r + 1
theorem findL_le (a b : Int) (l : List UInt8) : findL a b l ≤ l.length := by
  induction l with
  | nil => simp [findL]
  | cons c r ih => simp only [findL, List.length_cons]; split <;> omega
theorem find_any (s : ByteArray) (a b : Int) (w : World) (hs : s.size ≤ 9223372036854775807) :
    Calls Tryd.prog 88 #[.string s, .int .u8 a, .int .u8 b] w fun e w' => e = .returned (.int .i64 (findL a b s.data.toList)) ∧ w = w' := by
  go_enter Tryd.func88, Tryd.ntmps88
  go_wp2
  go_loop [7] (fun i => ∃ k : Nat, k ≤ s.size ∧ i = .int .i64 k ∧ Hid (findL a b s.data.toList = k + findL a b (s.data.toList.drop k))) (fun i => s.size - (intOf i).toNat)
  case atStart => exact ⟨0, Nat.zero_le _, rfl, by simp [Hid]⟩
  case round =>
    obtain ⟨k, hk, rfl, hr⟩ := hrel
    by_cases hlt : k < s.size
    · have hd := getD_byte s k hlt
      have hr' := hr.out
      rw [hd, findL] at hr'
      clear hr hd
      by_cases h1 : (s[k].toNat : Int) = a
      · have h1b : ((s[k].toNat : Int) == a) = true := by simp [h1]
        rw [if_pos (.inl h1)] at hr'
        have hf : Hid (findL a b s.data.toList = k) := by show _ = _; omega
        clear hr' h1
        go_wp2_with fail
        go_ret
        rw [hf.out]; exact ⟨rfl, rfl⟩
      · have h1b : ((s[k].toNat : Int) == a) = false := by simp [h1]
        by_cases h2 : (s[k].toNat : Int) = b
        · have h2b : ((s[k].toNat : Int) == b) = true := by simp [h2]
          rw [if_pos (.inr h2)] at hr'
          have hf : Hid (findL a b s.data.toList = k) := by show _ = _; omega
          clear hr' h1 h2
          go_wp2_with fail
          go_ret
          rw [hf.out]; exact ⟨rfl, rfl⟩
        · have h2b : ((s[k].toNat : Int) == b) = false := by simp [h2]
          rw [if_neg (by simp [h1, h2])] at hr'
          have hf : Hid (findL a b s.data.toList = (k + 1 : Nat) + findL a b (s.data.toList.drop (k + 1))) := by show _ = _; omega
          clear hr' h1 h2
          go_wp2_with fail
          go_round
          case rel => exact ⟨k + 1, by omega, by go_num, hf⟩
          case measure => simp [intOf]; omega
    · have hf : Hid (findL a b s.data.toList = s.size) := by
        have h := hr.out
        rw [List.drop_of_length_le (by rw [← Lib.size_eq]; omega), findL] at h
        show _ = _; omega
      clear hr
      go_wp2_with fail
      go_ret
      rw [hf.out]; exact ⟨rfl, rfl⟩
end Go.Proofs.YthkkcbfemmpfmaaDoor
