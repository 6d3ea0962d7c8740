/- A slice built of one fact; a new variable that is stored to. -/
import Derived.Test.YtchfoioahgfjdaaClo
namespace Go.Proofs.Ytchfoioahgfjdaa
open Go.RowKit

theorem foldl_set (l : List Value) : ∀ (i : Nat) (cs : Array Value) (j : Nat), i + l.length ≤ cs.size →
    ((l.zipIdx i).foldl (fun cs (x : Value × Nat) => cs.setIfInBounds (0 + x.2) x.1) cs)[j]? = if i ≤ j ∧ j < i + l.length then l[j - i]? else cs[j]? := by
  induction l with
  | nil => intro i cs j _; simp; omega
  | cons v l ih =>
    intro i cs j h
    simp only [List.zipIdx_cons, List.foldl_cons, List.length_cons] at h ⊢
    rw [ih (i + 1) _ j (by simp; omega)]
    by_cases h1 : i + 1 ≤ j ∧ j < i + 1 + l.length
    · rw [if_pos h1, if_pos (by omega), show j - i = (j - (i + 1)) + 1 by omega, List.getElem?_cons_succ]
    · rw [if_neg h1]
      by_cases h2 : i = j
      · subst h2
        have hi : i < cs.size := by omega
        rw [if_pos (by omega)]
        simp [hi]
      · rw [if_neg (by omega)]
        simp [h2]

theorem fill_one (n : Nat) (cells v : Array Value) (hv : v.size = n) (hc : cells.size = n) :
    Instr.fill (fun i => some (i * n, n)) cells [(0, .agg v)] = some v := by
  simp only [Instr.fill, Value.cells, Nat.zero_mul, hv, hc]
  rw [if_neg (by simp)]
  congr 1
  apply Array.ext_getElem?
  intro j
  have := foldl_set v.toList 0 cells j (by simp; omega)
  rw [← Array.foldl_toList, Array.toList_zipIdx, this]
  simp only [Array.length_toList, Nat.zero_add, Nat.sub_zero, Nat.zero_le, true_and, Array.getElem?_toList]
  by_cases hj : j < v.size
  · rw [if_pos hj]
  · rw [if_neg hj, Array.getElem?_eq_none (by omega), Array.getElem?_eq_none (by omega)]

theorem zero31 (w : World) : (zeroValue 31).run Try.prog w = .ok (.agg (FV0 0 0 0).arr) w := by kernel_rfl

@[go_sem] theorem run_bldS1 (f : FV) (w : World) : (bldS 23 1 #[(0, .agg f.arr)]).run Try.prog w = .ok (.slice (some ⟨w.heap.size, 0, none⟩) 1 1) (w.alloc (.cells f.arr 31)) := by
  unfold bldS Instr.buildSlice
  have hf := fun cells (h : cells.size = 38) => fill_one 38 cells f.arr f.sz h
  simp [Sem.run_bind, run_underlying Try.und23, Value.cells, newRow, hf]

theorem setRow_new (w : World) (X Y : Array Value) (t : TypeId) : (w.alloc (.cells X t)).setRow w.heap.size Y = w.alloc (.cells Y t) := by
  unfold World.setRow
  show World.mk _ _ _ _ _ = World.mk _ _ _ _ _
  congr 1
  show (w.heap.push _).modify _ _ = w.heap.push _
  apply Array.ext_getElem?
  intro i
  simp only [Array.getElem?_modify, Array.getElem?_push]
  by_cases h : w.heap.size = i
  · subst h; simp
  · have : ¬ i = w.heap.size := fun e => h e.symm
    simp [h, this]

@[go_sem] theorem run_st31_new (w : World) (f0 f : FV) : (st 31 (.pointer (some ⟨w.heap.size, 0, none⟩)) (.agg f.arr)).run Try.prog (w.alloc (.cells f0.arr 31)) = .ok () (w.alloc (.cells f.arr 31)) := by
  rw [run_st31 (w.alloc (.cells f0.arr 31)) w.heap.size f0.arr (heap_alloc_new w _) f0.sz f, setRow_new]
@[go_sem] theorem run_ld31_new (w : World) (f : FV) : (ld 31 (.pointer (some ⟨w.heap.size, 0, none⟩))).run Try.prog (w.alloc (.cells f.arr 31)) = .ok (.agg f.arr) (w.alloc (.cells f.arr 31)) :=
  (FBlk.new w f).ld

end Go.Proofs.Ytchfoioahgfjdaa
