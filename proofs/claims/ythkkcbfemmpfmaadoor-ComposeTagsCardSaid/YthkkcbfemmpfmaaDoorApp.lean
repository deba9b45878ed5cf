import Derived.Test.YthkkcbfemmpfmaaDoorTwice
import Derived.Maps.AppendAt
set_option linter.unusedSimpArgs false
set_option linter.unusedVariables false
namespace Go.Proofs.YthkkcbfemmpfmaaDoor
open Go.RowKit Go.Lib

theorem append_at {ops : Array Oper} {rest : List Oper} {o : Oper} {a : Act} {Q : Exit → Act → World → Prop} (w : World) (t e : TypeId) (z : Value) (size bytes : Nat) (hT : Tryd.prog.underlying t = some (.slice e))
    (hI : (Tryd.prog.info? e).map (fun i => (i.zero, i.size, i.bytes)) = some (some z, size, bytes)) (hzs : z.cells.size = size) (hsz : 0 < size) (hgd : o.guard = none) (s x : Operand)
    (ho : o.op = .call { callee := .builtin .append, args := #[s, x], argTypes := #[t, t] }) {base n : Nat} (v : Value) (xs : List Value) (hs : a.eval s = v) (hown : w.ownsRow base e size v n xs)
    (news : List Value) (hx : a.eval x = .slice (some ⟨w.heap.size, 0, none⟩) 1 1) (hl : news.length = size) (h1 : news.all Value.oneCell' = true) (h63 : n + 1 ≤ maxLen) (hbytes : (n + 1) * bytes ≤ 140737488355328) (hbase : base ≤ w.heap.size)
    (h : ∀ g cap w', w'.ownsRow base e size (.slice (some ⟨g, 0, none⟩) (n + 1) cap) (n + 1) (xs ++ news) → w.grownBy w' v.ownBlock → (some g = v.ownBlock ∨ w.heap.size ≤ g) → wpList Tryd.prog ops Q rest (a.put o.dst (.slice (some ⟨g, 0, none⟩) (n + 1) cap)) w') :
    wpList Tryd.prog ops Q (o :: rest) a (w.alloc (.cells news.toArray e)) := by
  obtain ⟨i0, hi, hz0, hz1, hz2⟩ := info_parts hI
  refine wpList_append_own_at _ hgd s x t ho base e i0 z size bytes hT hi hz0 hz1 hz2 hzs hsz v n xs hs (hown.alloc _) ⟨w.heap.size, 0, none⟩ 1 1 news hx (by omega)
    (fun j u hu => ?_) (fun u hu => (List.all_eq_true.1 h1) u hu) h63 hbytes (by simp; omega) ?_
  · have hb := Blk.new w news e
    have : (⟨w.heap.size, 0, none⟩ : Addr).add j = ⟨w.heap.size, j, none⟩ := by unfold Addr.add; split <;> simp_all
    rw [this]; exact hb.cell hu
  · intro v' w' h3 h4 _ h5
    rcases own_forms h3 with ⟨_, h0, _⟩ | ⟨g, cap, rfl, _⟩
    · omega
    refine h g cap w' h3 (World.grownBy.trans (World.grownBy_alloc w _ _) h4) ?_
    rcases h5 with h5 | h5
    · exact .inl h5
    · simp only [Value.ownBlock, Option.some.injEq, World.size_alloc] at h5
      exact .inr (by omega)
theorem info_node : (Tryd.prog.info? 57).map (fun i => (i.zero, i.size, i.bytes)) = some (some (.agg #[.int .i64 0, .string ByteArray.empty, .string ByteArray.empty, .slice none 0 0]), 4, 64) := by kernel_rfl
end Go.Proofs.YthkkcbfemmpfmaaDoor
