import Derived.Test.YthkkcbfemmpfmaaDoorHeavy
import Derived.Deep.Slices
import Derived.SizedLaws
set_option linter.unusedSimpArgs false
set_option linter.unusedVariables false
namespace Go.Proofs.YthkkcbfemmpfmaaDoor
open Go.RowKit Go.Lib

theorem c_ev : Tryd.prog.cellsOf 23 = 5 := by kernel_rfl
theorem c_int : Tryd.prog.cellsOf 3 = 1 := by kernel_rfl
theorem c_str : Tryd.prog.cellsOf 9 = 1 := by kernel_rfl
theorem c_bool : Tryd.prog.cellsOf 4 = 1 := by kernel_rfl
theorem b_ev : Tryd.prog.bytesOf 23 = 64 := by kernel_rfl

section
variable {H : Type} {enc : TypeId × Value → H} {W : World} {base : Nat} {spare : Nat → Bool} {held : Bool}
set_option maxRecDepth 100000 in
theorem ev_open {fuel : Nat} {cs : List Value} {x : DataW H × List MemPlace} (h : DataW.trod enc Tryd.prog W base spare held fuel 23 cs = some x) (hw : ∀ n ∈ x.1.weights Tryd.prog 23, n ≤ reachBytes) :
    ∃ e : Ev, cs = e.cells ∧ e.ok := by
  obtain ⟨xs, n, _, rfl, hl, hlen, hf⟩ := DataW.trod_struct Tryd.underlying23 h
  rw [c_ev] at hl
  match cs, hl, xs, hlen with
  | [c0, c1, c2, c3, c4], _, [y0, y1, y2, y3, y4], _ =>
    have f0 : DataW.trod enc Tryd.prog W base spare held n 3 (([c0, c1, c2, c3, c4].drop 0).take (Tryd.prog.cellsOf 3)) = some y0 := hf 0 _ rfl
    rw [c_int] at f0
    have f1 : DataW.trod enc Tryd.prog W base spare held n 9 (([c0, c1, c2, c3, c4].drop 1).take (Tryd.prog.cellsOf 9)) = some y1 := hf 1 _ rfl
    rw [c_str] at f1
    have f2 : DataW.trod enc Tryd.prog W base spare held n 9 (([c0, c1, c2, c3, c4].drop 2).take (Tryd.prog.cellsOf 9)) = some y2 := hf 2 _ rfl
    rw [c_str] at f2
    have f3 : DataW.trod enc Tryd.prog W base spare held n 9 (([c0, c1, c2, c3, c4].drop 3).take (Tryd.prog.cellsOf 9)) = some y3 := hf 3 _ rfl
    rw [c_str] at f3
    have f4 : DataW.trod enc Tryd.prog W base spare held n 4 (([c0, c1, c2, c3, c4].drop 4).take (Tryd.prog.cellsOf 4)) = some y4 := hf 4 _ rfl
    rw [c_bool] at f4
    obtain ⟨k, h0, rfl, hk⟩ := DataW.trod_int Tryd.underlying3 f0
    obtain ⟨a, h1, rfl, _⟩ := DataW.trod_string Tryd.underlying9 f1
    obtain ⟨t, h2, rfl, _⟩ := DataW.trod_string Tryd.underlying9 f2
    obtain ⟨u, h3, rfl, _⟩ := DataW.trod_string Tryd.underlying9 f3
    obtain ⟨b, h4, rfl⟩ := DataW.trod_bool Tryd.underlying4 f4
    obtain rfl : c0 = .int .i64 k := by simpa using h0
    obtain rfl : c1 = .string a := by simpa using h1
    obtain rfl : c2 = .string t := by simpa using h2
    obtain rfl : c3 = .string u := by simpa using h3
    obtain rfl : c4 = .bool b := by simpa using h4
    simp only [List.map_cons, List.map_nil, DataW.weights, Tryd.underlying23, DataW.weightsEach, List.nil_append, List.append_nil, List.cons_append, List.mem_cons, List.not_mem_nil, or_false, forall_eq_or_imp, forall_eq, Array.toList_map, List.map_cons, List.map_nil] at hw
    obtain ⟨w1, w2, w3⟩ := hw
    rw [← Lib.size_eq] at w1 w2 w3
    unfold reachBytes at w1 w2 w3
    have hk2 : -9223372036854775808 ≤ k ∧ k ≤ 9223372036854775807 := by
      simp only [Lit.wf, Bool.and_eq_true, decide_eq_true_eq] at hk
      exact hk
    exact ⟨⟨k, a, t, u, b⟩, rfl, hk2.1, hk2.2, by simpa using w1, by simpa using w2, by simpa using w3⟩
end
end Go.Proofs.YthkkcbfemmpfmaaDoor
