import Derived.Test.YthkkcbfemmpfmaaDoorGraphs
import Derived.Deep.DeepCutAuto
set_option linter.unusedSimpArgs false
set_option linter.unusedVariables false
namespace Go.Proofs.YthkkcbfemmpfmaaDoor
open Go.RowKit Go.Lib

def aliveEs (z : ByteArray) : List Ev := [⟨0, ⟨#[]⟩, ⟨#[]⟩, ⟨#[]⟩, false⟩, ⟨2, ⟨#[97]⟩, ⟨#[]⟩, ⟨#[]⟩, false⟩, ⟨7, z, ⟨#[]⟩, ⟨#[]⟩, false⟩, ⟨3, ⟨#[]⟩, ⟨#[]⟩, ⟨#[]⟩, false⟩, ⟨1, ⟨#[]⟩, ⟨#[]⟩, ⟨#[]⟩, false⟩]
theorem alive_a : graphsM (aliveEs ⟨#[97]⟩) = ([[⟨1, ⟨#[115, 101, 113]⟩, ⟨#[]⟩, [0]⟩]], 0) := by kernel_rfl
theorem alive_b : graphsM (aliveEs ⟨#[98]⟩) = ([], 11) := by kernel_rfl
theorem alive_t : tagE ⟨6, ⟨#[]⟩, ⟨#[]⟩, ⟨#[53]⟩, true⟩ = (⟨#[105, 110, 116]⟩, 0) := by kernel_rfl
theorem alive_u : (tagE ⟨6, ⟨#[]⟩, ⟨#[105, 110, 116]⟩, ⟨#[120]⟩, false⟩) = (⟨#[]⟩, 14) := by kernel_rfl

theorem rev_alive {w : World} {b : Nat} {z : ByteArray} (h : Blk w b (evCells (aliveEs z)) 30) (hz : z.size ≤ 140737488351232) : REv w (some ⟨b, 0, none⟩) 5 (aliveEs z) := by
  refine ⟨⟨rfl, by decide, fun _ => ⟨b, 0, rfl, fun j u hu => by rw [Nat.zero_add]; exact h.cell hu⟩⟩, ?_, by decide⟩
  intro e he
  simp only [aliveEs, List.mem_cons, List.not_mem_nil, or_false] at he
  rcases he with rfl | rfl | rfl | rfl | rfl
  · exact ⟨by decide, by decide, by decide, by decide, by decide⟩
  · exact ⟨by decide, by decide, by decide, by decide, by decide⟩
  · exact ⟨show (-9223372036854775808 : Int) ≤ 7 by decide, show (7 : Int) ≤ 9223372036854775807 by decide, hz, show (0 : Nat) ≤ _ by decide, show (0 : Nat) ≤ _ by decide⟩
  · exact ⟨by decide, by decide, by decide, by decide, by decide⟩
  · exact ⟨by decide, by decide, by decide, by decide, by decide⟩
theorem OUT.grown {b : Nat} {w w' : World} {ov : Value} {gs : List (List Nd)} {row : Option Nat} (h : OUT b w ov gs) (hg : w.grownBy w' row) (hr : ∀ q, row = some q → q < b) : OUT b w' ov gs := by
  obtain ⟨gvs, h1, h2, h3⟩ := h
  have hn : ∀ {e : TypeId} {sz n : Nat} {v : Value} {xs : List Value}, w.ownsRow b e sz v n xs → v.ownBlock = none ∨ v.ownBlock ≠ row := fun {_ _ _ v _} hv => by
    cases row with
    | none => cases v.ownBlock <;> simp
    | some q => exact own_ne_base hv (hr q rfl)
  exact ⟨gvs, h1.kept hg (hn h1), h2, fun i hi v hv => (h3 i hi v hv).grown hg (fun _ h => hn h)⟩
theorem grown_set (w : World) (a : Addr) (v : Value) : w.grownBy (w.setCell a v) (some a.block) := ⟨rfl, rfl, rfl, by simp [World.setCell], fun i _ hi => Below.heap_setCell _ _ _ _ (fun e => hi (by rw [e]))⟩
theorem alive_out {b : Nat} {w : World} {ov : Value} {t x : ByteArray} (h : OUT b w ov [[⟨1, t, x, [0]⟩]]) :
    ∃ g c g2 c2 g3 c3, ov = .slice (some ⟨g, 0, none⟩) 1 c ∧ w.cell? ⟨g, 0, none⟩ = some (.slice (some ⟨g2, 0, none⟩) 1 c2) ∧ w.cell? ⟨g2, 1, none⟩ = some (.string t) ∧ w.cell? ⟨g2, 3, none⟩ = some (.slice (some ⟨g3, 0, none⟩) 1 c3) ∧ w.cell? ⟨g3, 0, none⟩ = some (.int .i64 0) := by
  obtain ⟨gvs, h1, h2, h3⟩ := h
  rcases own_forms h1 with ⟨_, h0, _⟩ | ⟨g, c, rfl, _⟩
  · simp at h0
  obtain ⟨v, rfl⟩ : ∃ v, gvs = [v] := List.length_eq_one_iff.1 h2
  obtain ⟨kvs, k1, k2, k3, _⟩ := h3 0 (by simp) v rfl
  simp only [List.getElem_cons_zero] at k1 k2 k3
  rcases own_forms k1 with ⟨_, h0, _⟩ | ⟨g2, c2, rfl, _⟩
  · simp at h0
  obtain ⟨kv, rfl⟩ : ∃ kv, kvs = [kv] := List.length_eq_one_iff.1 k2
  have m1 := k3 0 (by simp) kv rfl
  rcases own_forms m1 with ⟨_, h0, _⟩ | ⟨g3, c3, rfl, _⟩
  · simp at h0
  exact ⟨g, c, g2, c2, g3, c3, rfl, h1.cellAt 0 (by simp), k1.cellAt 1 (by simp), k1.cellAt 3 (by simp), m1.cellAt 0 (by simp)⟩

set_option maxHeartbeats 1000000 in
set_option maxRecDepth 100000 in
theorem alive_any (w : World) (hT : Tabs w) : Calls Tryd.prog 8 #[] w fun e w' => e = .returned (.bool true) ∧ Below w.heap.size w w' := by
  have HT := hid' hT
  clear hT
  go_enter Tryd.func8, Tryd.ntmps8
  go_upto_region 2 with fail
  have hK := Blk.new w (evCells (aliveEs ⟨#[97]⟩)) 30
  have hB := below1 w (.cells (evCells (aliveEs ⟨#[97]⟩)).toArray 30)
  show Code.wp _ _ _ _ (w.alloc (.cells (evCells (aliveEs ⟨#[97]⟩)).toArray 30))
  generalize w.alloc (.cells (evCells (aliveEs ⟨#[97]⟩)).toArray 30) = W at hK hB ⊢
  have H1 := hid' (graphs_any _ 5 5 (aliveEs ⟨#[97]⟩) W (rev_alive hK (by decide)) (Utf8Tabs_below HT.out hB))
  have hlW := hK.lt
  go_upto_region 4 with (go_at_call 12; refine H1.out.mono ?_; rw [alive_a]; rintro e w1 ⟨⟨ov, bb, rfl, hout, hbb⟩, hb1⟩; have hK1 := hK.below hb1; have kf := hK1.free 11; have kc := hK1.cell (j := 11) rfl; have hl1 := hK1.lt; obtain ⟨g, c, g2, c2, g3, c3, rfl, _⟩ := alive_out hout; have HO1 := hid' hout; clear hout)
  have hK2 : Blk (w1.setCell ⟨w.heap.size, 11, none⟩ (.string ⟨#[98]⟩)) w.heap.size (evCells (aliveEs ⟨#[98]⟩)) 30 := hK1.set 11 _
  have HO2 := hid' (HO1.out.grown (grown_set w1 ⟨w.heap.size, 11, none⟩ (.string ⟨#[98]⟩)) (fun q hq => by simp only [Option.some.injEq] at hq; omega))
  have hB2 : Below w.heap.size w (w1.setCell ⟨w.heap.size, 11, none⟩ (.string ⟨#[98]⟩)) := (hB.trans (hb1.mono hB.size)).setCell (Nat.le_refl _) _
  generalize w1.setCell ⟨w.heap.size, 11, none⟩ (.string ⟨#[98]⟩) = W2 at hK2 HO2 hB2 ⊢
  have H2 := hid' (graphs_any _ 5 5 (aliveEs ⟨#[98]⟩) W2 (rev_alive hK2 (by decide)) (Utf8Tabs_below HT.out hB2))
  clear kc kf hK1 hb1 HO1 hK2 hlW hl1 hK hB H1
  go_upto_region 7 with (first | (go_at_call 12; refine H2.out.mono ?_; rw [alive_b]; rintro e w3 ⟨⟨ov3, bb3, rfl, hout3, hbb3⟩, hb3⟩; have hB3 := hB2.trans (hb3.mono hB2.size); have HO3 := hid' (HO2.out.below hb3); clear hout3) | (go_at_call 10; refine (tag_any _ _ _ _ _ _ (by decide)).mono ?_; (first | rw [alive_t] | rw [alive_u]); rintro e w3 ⟨rfl, hb3⟩; have hB3 := hB3.trans (hb3.mono hB3.size); have HO3 := hid' (HO3.out.below hb3)))
  obtain ⟨y, z, y2, z2, y3, z3, hy, q1, q2, q3, q4⟩ := alive_out HO3.out
  simp only [Value.slice.injEq, Option.some.injEq, Addr.mk.injEq, and_true, true_and] at hy
  obtain ⟨rfl, rfl⟩ := hy
  go_wp2_with fail
  go_ret
  exact ⟨rfl, hB3⟩
end Go.Proofs.YthkkcbfemmpfmaaDoor
