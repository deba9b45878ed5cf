import Derived.Test.YthkkcbfemmpfmaaDoorTag
set_option linter.unusedSimpArgs false
set_option linter.unusedVariables false
namespace Go.Proofs.YthkkcbfemmpfmaaDoor
open Go.RowKit

def nullS (s : ByteArray) : Bool := s.toList.isEmpty || s.toList == [126] || s.toList == [110, 117, 108, 108] || s.toList == [78, 117, 108, 108] || s.toList == [78, 85, 76, 76]
def boolS (s : ByteArray) : Bool := s.toList == [116, 114, 117, 101] || s.toList == [84, 114, 117, 101] || s.toList == [84, 82, 85, 69] || s.toList == [102, 97, 108, 115, 101] || s.toList == [70, 97, 108, 115, 101] || s.toList == [70, 65, 76, 83, 69]
def nanS (s : ByteArray) : Bool := s.toList == [46, 110, 97, 110] || s.toList == [46, 78, 97, 78] || s.toList == [46, 78, 65, 78]
def infS (s : ByteArray) : Bool := s.toList == [46, 105, 110, 102] || s.toList == [46, 73, 110, 102] || s.toList == [46, 73, 78, 70]
def tNull : ByteArray := ⟨#[110, 117, 108, 108]⟩
def tBool : ByteArray := ⟨#[98, 111, 111, 108]⟩
def tInt : ByteArray := ⟨#[105, 110, 116]⟩
def tFloat : ByteArray := ⟨#[102, 108, 111, 97, 116]⟩
def tStr : ByteArray := ⟨#[115, 116, 114]⟩
def tSeq : ByteArray := ⟨#[115, 101, 113]⟩
def tMap : ByteArray := ⟨#[109, 97, 112]⟩
def resolveB (s : ByteArray) : ByteArray :=
  if nullS s then tNull else if boolS s then tBool else if nanS s then tFloat else if infS (signB s) then tFloat else if wholeB s then tInt else if realB s then tFloat else tStr
set_option maxHeartbeats 8000000 in
theorem resolve_any (s : ByteArray) (w : World) (hs : s.size ≤ 4611686018427387903) :
    Calls Tryd.prog 24 #[.string s] w fun e w' => e = .returned (.string (resolveB s)) ∧ w = w' := by
  cases h0 : s.toList.isEmpty with
  | true => ((go_enter Tryd.func24, Tryd.ntmps24); (go_wp2_with (first | (go_at_call 47; refine (sign_any _ _).mono ?_; rintro e w' ⟨rfl, rfl⟩) | (go_at_call 48; refine (whole_any _ _ (by omega)).mono ?_; rintro e w' ⟨rfl, rfl⟩) | (go_at_call 49; refine (real_any _ _ (by omega)).mono ?_; rintro e w' ⟨rfl, rfl⟩))); go_ret; exact ⟨by simp [resolveB, nullS, boolS, nanS, infS, tNull, tBool, tFloat, tInt, tStr, *], rfl⟩)
  | false =>
  cases h1 : (s.toList == [126]) with
  | true => ((go_enter Tryd.func24, Tryd.ntmps24); (go_wp2_with (first | (go_at_call 47; refine (sign_any _ _).mono ?_; rintro e w' ⟨rfl, rfl⟩) | (go_at_call 48; refine (whole_any _ _ (by omega)).mono ?_; rintro e w' ⟨rfl, rfl⟩) | (go_at_call 49; refine (real_any _ _ (by omega)).mono ?_; rintro e w' ⟨rfl, rfl⟩))); go_ret; exact ⟨by simp [resolveB, nullS, boolS, nanS, infS, tNull, tBool, tFloat, tInt, tStr, *], rfl⟩)
  | false =>
  cases h2 : (s.toList == [110, 117, 108, 108]) with
  | true => ((go_enter Tryd.func24, Tryd.ntmps24); (go_wp2_with (first | (go_at_call 47; refine (sign_any _ _).mono ?_; rintro e w' ⟨rfl, rfl⟩) | (go_at_call 48; refine (whole_any _ _ (by omega)).mono ?_; rintro e w' ⟨rfl, rfl⟩) | (go_at_call 49; refine (real_any _ _ (by omega)).mono ?_; rintro e w' ⟨rfl, rfl⟩))); go_ret; exact ⟨by simp [resolveB, nullS, boolS, nanS, infS, tNull, tBool, tFloat, tInt, tStr, *], rfl⟩)
  | false =>
  cases h3 : (s.toList == [78, 117, 108, 108]) with
  | true => ((go_enter Tryd.func24, Tryd.ntmps24); (go_wp2_with (first | (go_at_call 47; refine (sign_any _ _).mono ?_; rintro e w' ⟨rfl, rfl⟩) | (go_at_call 48; refine (whole_any _ _ (by omega)).mono ?_; rintro e w' ⟨rfl, rfl⟩) | (go_at_call 49; refine (real_any _ _ (by omega)).mono ?_; rintro e w' ⟨rfl, rfl⟩))); go_ret; exact ⟨by simp [resolveB, nullS, boolS, nanS, infS, tNull, tBool, tFloat, tInt, tStr, *], rfl⟩)
  | false =>
  cases h4 : (s.toList == [78, 85, 76, 76]) with
  | true => ((go_enter Tryd.func24, Tryd.ntmps24); (go_wp2_with (first | (go_at_call 47; refine (sign_any _ _).mono ?_; rintro e w' ⟨rfl, rfl⟩) | (go_at_call 48; refine (whole_any _ _ (by omega)).mono ?_; rintro e w' ⟨rfl, rfl⟩) | (go_at_call 49; refine (real_any _ _ (by omega)).mono ?_; rintro e w' ⟨rfl, rfl⟩))); go_ret; exact ⟨by simp [resolveB, nullS, boolS, nanS, infS, tNull, tBool, tFloat, tInt, tStr, *], rfl⟩)
  | false =>
  cases h5 : (s.toList == [116, 114, 117, 101]) with
  | true => ((go_enter Tryd.func24, Tryd.ntmps24); (go_wp2_with (first | (go_at_call 47; refine (sign_any _ _).mono ?_; rintro e w' ⟨rfl, rfl⟩) | (go_at_call 48; refine (whole_any _ _ (by omega)).mono ?_; rintro e w' ⟨rfl, rfl⟩) | (go_at_call 49; refine (real_any _ _ (by omega)).mono ?_; rintro e w' ⟨rfl, rfl⟩))); go_ret; exact ⟨by simp [resolveB, nullS, boolS, nanS, infS, tNull, tBool, tFloat, tInt, tStr, *], rfl⟩)
  | false =>
  cases h6 : (s.toList == [84, 114, 117, 101]) with
  | true => ((go_enter Tryd.func24, Tryd.ntmps24); (go_wp2_with (first | (go_at_call 47; refine (sign_any _ _).mono ?_; rintro e w' ⟨rfl, rfl⟩) | (go_at_call 48; refine (whole_any _ _ (by omega)).mono ?_; rintro e w' ⟨rfl, rfl⟩) | (go_at_call 49; refine (real_any _ _ (by omega)).mono ?_; rintro e w' ⟨rfl, rfl⟩))); go_ret; exact ⟨by simp [resolveB, nullS, boolS, nanS, infS, tNull, tBool, tFloat, tInt, tStr, *], rfl⟩)
  | false =>
  cases h7 : (s.toList == [84, 82, 85, 69]) with
  | true => ((go_enter Tryd.func24, Tryd.ntmps24); (go_wp2_with (first | (go_at_call 47; refine (sign_any _ _).mono ?_; rintro e w' ⟨rfl, rfl⟩) | (go_at_call 48; refine (whole_any _ _ (by omega)).mono ?_; rintro e w' ⟨rfl, rfl⟩) | (go_at_call 49; refine (real_any _ _ (by omega)).mono ?_; rintro e w' ⟨rfl, rfl⟩))); go_ret; exact ⟨by simp [resolveB, nullS, boolS, nanS, infS, tNull, tBool, tFloat, tInt, tStr, *], rfl⟩)
  | false =>
  cases h8 : (s.toList == [102, 97, 108, 115, 101]) with
  | true => ((go_enter Tryd.func24, Tryd.ntmps24); (go_wp2_with (first | (go_at_call 47; refine (sign_any _ _).mono ?_; rintro e w' ⟨rfl, rfl⟩) | (go_at_call 48; refine (whole_any _ _ (by omega)).mono ?_; rintro e w' ⟨rfl, rfl⟩) | (go_at_call 49; refine (real_any _ _ (by omega)).mono ?_; rintro e w' ⟨rfl, rfl⟩))); go_ret; exact ⟨by simp [resolveB, nullS, boolS, nanS, infS, tNull, tBool, tFloat, tInt, tStr, *], rfl⟩)
  | false =>
  cases h9 : (s.toList == [70, 97, 108, 115, 101]) with
  | true => ((go_enter Tryd.func24, Tryd.ntmps24); (go_wp2_with (first | (go_at_call 47; refine (sign_any _ _).mono ?_; rintro e w' ⟨rfl, rfl⟩) | (go_at_call 48; refine (whole_any _ _ (by omega)).mono ?_; rintro e w' ⟨rfl, rfl⟩) | (go_at_call 49; refine (real_any _ _ (by omega)).mono ?_; rintro e w' ⟨rfl, rfl⟩))); go_ret; exact ⟨by simp [resolveB, nullS, boolS, nanS, infS, tNull, tBool, tFloat, tInt, tStr, *], rfl⟩)
  | false =>
  cases h10 : (s.toList == [70, 65, 76, 83, 69]) with
  | true => ((go_enter Tryd.func24, Tryd.ntmps24); (go_wp2_with (first | (go_at_call 47; refine (sign_any _ _).mono ?_; rintro e w' ⟨rfl, rfl⟩) | (go_at_call 48; refine (whole_any _ _ (by omega)).mono ?_; rintro e w' ⟨rfl, rfl⟩) | (go_at_call 49; refine (real_any _ _ (by omega)).mono ?_; rintro e w' ⟨rfl, rfl⟩))); go_ret; exact ⟨by simp [resolveB, nullS, boolS, nanS, infS, tNull, tBool, tFloat, tInt, tStr, *], rfl⟩)
  | false =>
  cases h11 : (s.toList == [46, 110, 97, 110]) with
  | true => ((go_enter Tryd.func24, Tryd.ntmps24); (go_wp2_with (first | (go_at_call 47; refine (sign_any _ _).mono ?_; rintro e w' ⟨rfl, rfl⟩) | (go_at_call 48; refine (whole_any _ _ (by omega)).mono ?_; rintro e w' ⟨rfl, rfl⟩) | (go_at_call 49; refine (real_any _ _ (by omega)).mono ?_; rintro e w' ⟨rfl, rfl⟩))); go_ret; exact ⟨by simp [resolveB, nullS, boolS, nanS, infS, tNull, tBool, tFloat, tInt, tStr, *], rfl⟩)
  | false =>
  cases h12 : (s.toList == [46, 78, 97, 78]) with
  | true => ((go_enter Tryd.func24, Tryd.ntmps24); (go_wp2_with (first | (go_at_call 47; refine (sign_any _ _).mono ?_; rintro e w' ⟨rfl, rfl⟩) | (go_at_call 48; refine (whole_any _ _ (by omega)).mono ?_; rintro e w' ⟨rfl, rfl⟩) | (go_at_call 49; refine (real_any _ _ (by omega)).mono ?_; rintro e w' ⟨rfl, rfl⟩))); go_ret; exact ⟨by simp [resolveB, nullS, boolS, nanS, infS, tNull, tBool, tFloat, tInt, tStr, *], rfl⟩)
  | false =>
  cases h13 : (s.toList == [46, 78, 65, 78]) with
  | true => ((go_enter Tryd.func24, Tryd.ntmps24); (go_wp2_with (first | (go_at_call 47; refine (sign_any _ _).mono ?_; rintro e w' ⟨rfl, rfl⟩) | (go_at_call 48; refine (whole_any _ _ (by omega)).mono ?_; rintro e w' ⟨rfl, rfl⟩) | (go_at_call 49; refine (real_any _ _ (by omega)).mono ?_; rintro e w' ⟨rfl, rfl⟩))); go_ret; exact ⟨by simp [resolveB, nullS, boolS, nanS, infS, tNull, tBool, tFloat, tInt, tStr, *], rfl⟩)
  | false =>
  cases h14 : ((signB s).toList == [46, 105, 110, 102]) with
  | true => ((go_enter Tryd.func24, Tryd.ntmps24); (go_wp2_with (first | (go_at_call 47; refine (sign_any _ _).mono ?_; rintro e w' ⟨rfl, rfl⟩) | (go_at_call 48; refine (whole_any _ _ (by omega)).mono ?_; rintro e w' ⟨rfl, rfl⟩) | (go_at_call 49; refine (real_any _ _ (by omega)).mono ?_; rintro e w' ⟨rfl, rfl⟩))); go_ret; exact ⟨by simp [resolveB, nullS, boolS, nanS, infS, tNull, tBool, tFloat, tInt, tStr, *], rfl⟩)
  | false =>
  cases h15 : ((signB s).toList == [46, 73, 110, 102]) with
  | true => ((go_enter Tryd.func24, Tryd.ntmps24); (go_wp2_with (first | (go_at_call 47; refine (sign_any _ _).mono ?_; rintro e w' ⟨rfl, rfl⟩) | (go_at_call 48; refine (whole_any _ _ (by omega)).mono ?_; rintro e w' ⟨rfl, rfl⟩) | (go_at_call 49; refine (real_any _ _ (by omega)).mono ?_; rintro e w' ⟨rfl, rfl⟩))); go_ret; exact ⟨by simp [resolveB, nullS, boolS, nanS, infS, tNull, tBool, tFloat, tInt, tStr, *], rfl⟩)
  | false =>
  cases h16 : ((signB s).toList == [46, 73, 78, 70]) with
  | true => ((go_enter Tryd.func24, Tryd.ntmps24); (go_wp2_with (first | (go_at_call 47; refine (sign_any _ _).mono ?_; rintro e w' ⟨rfl, rfl⟩) | (go_at_call 48; refine (whole_any _ _ (by omega)).mono ?_; rintro e w' ⟨rfl, rfl⟩) | (go_at_call 49; refine (real_any _ _ (by omega)).mono ?_; rintro e w' ⟨rfl, rfl⟩))); go_ret; exact ⟨by simp [resolveB, nullS, boolS, nanS, infS, tNull, tBool, tFloat, tInt, tStr, *], rfl⟩)
  | false =>
  cases h17 : wholeB s with
  | true => ((go_enter Tryd.func24, Tryd.ntmps24); (go_wp2_with (first | (go_at_call 47; refine (sign_any _ _).mono ?_; rintro e w' ⟨rfl, rfl⟩) | (go_at_call 48; refine (whole_any _ _ (by omega)).mono ?_; rintro e w' ⟨rfl, rfl⟩) | (go_at_call 49; refine (real_any _ _ (by omega)).mono ?_; rintro e w' ⟨rfl, rfl⟩))); go_ret; exact ⟨by simp [resolveB, nullS, boolS, nanS, infS, tNull, tBool, tFloat, tInt, tStr, *], rfl⟩)
  | false =>
  cases h18 : realB s with
  | true => ((go_enter Tryd.func24, Tryd.ntmps24); (go_wp2_with (first | (go_at_call 47; refine (sign_any _ _).mono ?_; rintro e w' ⟨rfl, rfl⟩) | (go_at_call 48; refine (whole_any _ _ (by omega)).mono ?_; rintro e w' ⟨rfl, rfl⟩) | (go_at_call 49; refine (real_any _ _ (by omega)).mono ?_; rintro e w' ⟨rfl, rfl⟩))); go_ret; exact ⟨by simp [resolveB, nullS, boolS, nanS, infS, tNull, tBool, tFloat, tInt, tStr, *], rfl⟩)
  | false =>
  ((go_enter Tryd.func24, Tryd.ntmps24); (go_wp2_with (first | (go_at_call 47; refine (sign_any _ _).mono ?_; rintro e w' ⟨rfl, rfl⟩) | (go_at_call 48; refine (whole_any _ _ (by omega)).mono ?_; rintro e w' ⟨rfl, rfl⟩) | (go_at_call 49; refine (real_any _ _ (by omega)).mono ?_; rintro e w' ⟨rfl, rfl⟩))); go_ret; exact ⟨by simp [resolveB, nullS, boolS, nanS, infS, tNull, tBool, tFloat, tInt, tStr, *], rfl⟩)
end Go.Proofs.YthkkcbfemmpfmaaDoor
