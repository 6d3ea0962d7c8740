/- copy, append of zeros, and overlaps, at slices of facts. -/
import Derived.Test.YtchfoioahgfjdaaHas
import Derived.Deep.RegionLaw
import Derived.Lib.Overlaps
import Derived.Lib.AppendZeros
namespace Go.Proofs.Ytchfoioahgfjdaa
open Go.RowKit

/-- Block g is the row of cells cur. -/
def Row (w : World) (g : Nat) (cur : List Value) : Prop := w.heap[g]? = some (.cells cur.toArray 31 (0, 0))

theorem info31' : ∃ i, Try.prog.info? 31 = some i ∧ i.size = 38 ∧ i.bytes = 96 ∧ i.zero = some (.agg (FV0 0 0 0).arr) := by
  obtain ⟨i0, hi, hz0, hz1, hz2⟩ := info_parts Try.info31
  exact ⟨i0, hi, hz1, hz2, hz0⟩

theorem splice_toArray (cur : List Value) (off : Nat) (cs : List Value) : (cur.toArray.toList.take off ++ cs ++ cur.toArray.toList.drop (off + cs.length)).toArray = (splice cur off cs).toArray := by
  simp [splice]

theorem run_copy23 (w : World) (ty : TypeId) (g off dLen dCap : Nat) (ad : Addr) (sLen sCap : Nat) (cur cs : List Value) (hg : Row w g cur) (hn : cs.length = min sLen dLen * 38)
    (hsrc : At w ad cs) (hfit : off + cs.length ≤ cur.length) (h1 : ∀ v ∈ cs, v.oneCell' = true) :
    (Builtin.copy_ #[23, 23] ty #[.slice (some ⟨g, off, none⟩) dLen dCap, .slice (some ad) sLen sCap]).run Try.prog w = .ok (goInt (min sLen dLen : Nat)) (w.setRow g (splice cur off cs).toArray) := by
  obtain ⟨i, hi, hs, _, _⟩ := info31'
  have hl := run_loadCells_list (P := Try.prog) w ad cs hsrc
  have hst := run_storeCells_at (P := Try.prog) g off 31 cs 0 cur.toArray w hg (by simpa using hfit) h1
  rw [Nat.add_zero, splice_toArray] at hst
  have hm : Nat.min sLen dLen = min sLen dLen := rfl
  simp [Builtin.copy_, run_underlying Try.und23, Builtin.lenOf, Builtin.firstCells, sizeOf, typeInfo, hi, hs, hm, ← hn, hl, hst]

theorem setRow_gb (w : World) (g : Nat) (cs : Array Value) : w.grownBy (w.setRow g cs) (some g) :=
  ⟨rfl, rfl, rfl, by simp [World.setRow], fun k hk h => setRow_other w g k cs (fun e => h (by rw [e]))⟩

theorem wp_copy23 {o : Oper} {a : Act} {w : World} {K : Act → World → Prop} {Q : Exit → Act → World → Prop} (d s : Operand)
    (ho : o.op = .call { callee := .builtin .copy, args := #[d, s], argTypes := #[23, 23] })
    (g off dLen dCap : Nat) (ad : Addr) (sLen sCap : Nat) (hd : a.eval d = .slice (some ⟨g, off, none⟩) dLen dCap) (hs : a.eval s = .slice (some ad) sLen sCap)
    (cur cs : List Value) (hg : Row w g cur) (hn : cs.length = min sLen dLen * 38)
    (hsrc : At w ad cs) (hfit : off + cs.length ≤ cur.length) (h1 : ∀ v ∈ cs, v.oneCell' = true)
    (h : ∀ w', Row w' g (splice cur off cs) → w.grownBy w' (some g) → K (a.put o.dst (goInt (min sLen dLen : Nat))) w') : o.wp Try.prog a w K Q := by
  have hrun := run_copy23 w o.type g off dLen dCap ad sLen sCap cur cs hg hn hsrc hfit h1
  unfold Oper.wp
  simp [execOp, ho, resolve, invoke, builtin, hd, hs, hrun, Result.andThen]
  exact h _ (setRow_heap w g _ _ _ _ hg) (setRow_gb _ _ _)
theorem wpList_copy23 {ops : Array Oper} {rest : List Oper} {o : Oper} {a : Act} {w : World} {Q : Exit → Act → World → Prop} (hgd : o.guard = none) (d s : Operand)
    (ho : o.op = .call { callee := .builtin .copy, args := #[d, s], argTypes := #[23, 23] })
    (g off dLen dCap : Nat) (ad : Addr) (sLen sCap : Nat) (hd : a.eval d = .slice (some ⟨g, off, none⟩) dLen dCap) (hs : a.eval s = .slice (some ad) sLen sCap)
    (cur cs : List Value) (hg : Row w g cur) (hn : cs.length = min sLen dLen * 38)
    (hsrc : At w ad cs) (hfit : off + cs.length ≤ cur.length) (h1 : ∀ v ∈ cs, v.oneCell' = true)
    (h : ∀ w', Row w' g (splice cur off cs) → w.grownBy w' (some g) → wpList Try.prog ops Q rest (a.put o.dst (goInt (min sLen dLen : Nat))) w') : wpList Try.prog ops Q (o :: rest) a w :=
  wpList_plain hgd fun _ hK => wp_copy23 d s ho g off dLen dCap ad sLen sCap hd hs cur cs hg hn hsrc hfit h1 fun w' h2 h3 => hK _ _ (h w' h2 h3)
theorem step_copy23 {ops : Array Oper} {o : Oper} {a : Act} {w : World} {K : Act → World → Prop} {Q : Exit → Act → World → Prop} {E : Prop} (hgd : o.guard = none) (d s : Operand)
    (ho : o.op = .call { callee := .builtin .copy, args := #[d, s], argTypes := #[23, 23] })
    (g off dLen dCap : Nat) (ad : Addr) (sLen sCap : Nat) (hd : a.eval d = .slice (some ⟨g, off, none⟩) dLen dCap) (hs : a.eval s = .slice (some ad) sLen sCap)
    (cur cs : List Value) (hg : Row w g cur) (hn : cs.length = min sLen dLen * 38)
    (hsrc : At w ad cs) (hfit : off + cs.length ≤ cur.length) (h1 : ∀ v ∈ cs, v.oneCell' = true)
    (h : ∀ w', Row w' g (splice cur off cs) → w.grownBy w' (some g) → K (a.put o.dst (goInt (min sLen dLen : Nat))) w') :
    if Region.wanted o (yielded ops a.tmps) = true then Oper.wp Try.prog o a w K Q else E := by
  have hw : Region.wanted o (yielded ops a.tmps) = true := by simp [Region.wanted, hgd]
  rw [if_pos hw]
  exact wp_copy23 d s ho g off dLen dCap ad sLen sCap hd hs cur cs hg hn hsrc hfit h1 h

/-- append(s, make(S, n)...), where it grows. -/
theorem run_appendz23 (w : World) (ty : TypeId) (b : Addr) (sLen sCap n : Nat) (olds : List Value) (hlo : olds.length = sLen * 38) (holds : At w b olds)
    (hg : sCap < sLen + n) (hn : 0 < n) (hsm : sLen + n ≤ 1000000) :
    (Builtin.append_ #[23, 3] ty #[.slice (some b) sLen sCap, .int .i64 n]).run Try.prog w =
      .ok (.slice (some ⟨w.heap.size, 0, none⟩) (sLen + n) (grownCap w (sLen + n) sCap 31))
        (w.drew.alloc (.cells (olds.toArray ++ (Builtin.zeroCells (FV0 0 0 0).arr n ++ Builtin.zeroCells (FV0 0 0 0).arr (grownCap w (sLen + n) sCap 31 - (sLen + n)))) 31)) := by
  obtain ⟨i, hi, hs, hby, hz⟩ := info31'
  have htn : Try.prog.underlying 3 = some (.int .i64) := by kernel_rfl
  have hw : IntKind.i64.wrap (n : Int) = n := by rw [IntKind.wrap_i64]; omega
  have hroom : ¬ (sLen + n ≤ sCap) := by omega
  have h63 : ¬ (9223372036854775807 < ((sLen : Int) + (n : Int))) := by omega
  have hfit := growslice_fits (bytes := 96) hg (by omega)
  have h48 : ¬ (281474976710656 < Builtin.nextslicecap (sLen + n) sCap * 96) := by omega
  have h48i : ¬ (281474976710656 < (n : Int) * 96) := by omega
  have hneg : ¬ ((n : Int) < 0) := by omega
  have hfo := run_firstCells_some (P := Try.prog) w.drew 38 sLen b sLen sCap olds hlo (fun j v hj => holds j v hj)
  simp [Builtin.append_, run_underlying Try.und23, run_underlying htn, sizeOf, typeInfo, zeroValue, hi, hs, hby, hz, asInt, asIntOf, hw, hneg, h63, h48, h48i, hroom, Question.forced, hfo, newRow, grownCap, Value.cells]
  intro h0
  omega

theorem wpList_appendz23 {ops : Array Oper} {rest : List Oper} {o : Oper} {a : Act} {w : World} {Q : Exit → Act → World → Prop} (hgd : o.guard = none) (s x : Operand)
    (ho : o.op = .call { callee := .builtin .append, args := #[s, x], argTypes := #[23, 3] }) (b : Addr) (sLen sCap n : Nat) (N : Int) (hs : a.eval s = .slice (some b) sLen sCap) (hx : a.eval x = .int .i64 N) (hN : N = n)
    (olds : List Value) (hlo : olds.length = sLen * 38) (holds : At w b olds) (hg : sCap < sLen + n) (hn : 0 < n) (hsm : sLen + n ≤ 1000000)
    (h : ∀ (c : Nat) (Zs : List Value) (w' : World), sLen + n ≤ c → c ≤ maxLen → Zs.length = (c - sLen) * 38 → Row w' w.heap.size (olds ++ Zs) → w.grownBy w' none → wpList Try.prog ops Q rest (a.put o.dst (.slice (some ⟨w.heap.size, 0, none⟩) (sLen + n) c)) w') :
    wpList Try.prog ops Q (o :: rest) a w := by
  subst hN
  have hrun := run_appendz23 w o.type b sLen sCap n olds hlo holds hg hn hsm
  refine Lib.wpList_append_run w hgd s x 23 3 ho _ _ hs hx _ _ hrun ?_
  have hge := grownCap_ge w (sLen + n) sCap 31
  have hle := grownCap_le_maxLen w (sLen + n) sCap 31 (by simp only [maxLen]; omega)
  refine h _ (Builtin.zeroCells (FV0 0 0 0).arr n ++ Builtin.zeroCells (FV0 0 0 0).arr (grownCap w (sLen + n) sCap 31 - (sLen + n))).toList _ hge hle ?_ ?_ ⟨rfl, rfl, rfl, by simp, fun k hk _ => Below.heap_alloc w.drew _ k hk⟩
  · simp only [Array.length_toList, Array.size_append, size_zeroCells, FV.sz, ← Nat.add_mul]
    congr 1
    omega
  · unfold Row
    have := heap_alloc_new w.drew (.cells (olds.toArray ++ (Builtin.zeroCells (FV0 0 0 0).arr n ++ Builtin.zeroCells (FV0 0 0 0).arr (grownCap w (sLen + n) sCap 31 - (sLen + n)))) 31)
    rw [show (w.drew).heap.size = w.heap.size from rfl] at this
    rw [this]
    congr 2
    apply Array.ext'
    simp

/-- A one-element slice of its own block, and a row: they do not overlap. -/
theorem overlaps_no (w : World) (vb g o la ca lb cb : Nat) (f : FV) (cur : List Value) (hv : FBlk w vb f) (hr : Row w g cur) (hne : vb ≠ g) (hc : cur ≠ []) :
    (callFunc 45 #[.slice (some ⟨vb, 0, none⟩) la ca, .slice (some ⟨g, o, none⟩) lb cb]).run Try.prog w = .ok (.value (.bool false)) w := by
  rw [run_callFunc_extern Try.func45 (by kernel_rfl) (by kernel_rfl) (by kernel_rfl) (e := Extern.SlicesOverlaps.overlaps #[23, 23] #[4]) (by kernel_rfl),
    Lib.run_overlaps_apart w 23 4 31 Try.und23 38 sizeOf31 ⟨vb, 0, none⟩ ⟨g, o, none⟩ la ca lb cb hne 31 31 38 cur.length (by unfold World.shape?; rw [hv]; simp [FV.sz]) (by unfold World.shape?; rw [hr]; simp)
      (fun h => hc (List.eq_nil_of_length_eq_zero h)) (hv.free 0) (hv.free 38)]
  rfl

theorem Row.at {w : World} {g : Nat} {cur : List Value} (h : Row w g cur) (o : Nat) (cs : List Value) (hc : ∀ j v, cs[j]? = some v → cur[o + j]? = some v) : At w ⟨g, o, none⟩ cs := by
  intro j v hv
  rw [add_mk, cell_of_row _ _ _ _ _ _ h]
  simpa using hc j v hv
theorem Row.gb {w w' : World} {g : Nat} {cur : List Value} {r : Option Nat} (h : Row w g cur) (hg : w.grownBy w' r) (hne : r ≠ some g) : Row w' g cur :=
  (hg.block g (Array.getElem?_eq_some_iff.1 h).1 (fun e => hne e.symm)).trans h
theorem FBlk.gb {w w' : World} {g : Nat} {f : FV} {r : Option Nat} (h : FBlk w g f) (hg : w.grownBy w' r) (hne : r ≠ some g) : FBlk w' g f :=
  (hg.block g h.lt (fun e => hne e.symm)).trans h

end Go.Proofs.Ytchfoioahgfjdaa
