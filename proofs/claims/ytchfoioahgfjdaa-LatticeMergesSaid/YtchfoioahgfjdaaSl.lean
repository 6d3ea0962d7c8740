/- Slices of facts; what they hold. -/
import Derived.Test.YtchfoioahgfjdaaLess
import Derived.OwnWalk
namespace Go.Proofs.Ytchfoioahgfjdaa
open Go.RowKit

def flat (fs : List FV) : List Value := fs.flatMap FV.cells
theorem flat_len (fs : List FV) : (flat fs).length = fs.length * 38 := by
  induction fs with
  | nil => rfl
  | cons f fs ih => simp only [flat, List.flatMap_cons, List.length_append, f.len, List.length_cons] at ih ⊢; omega
theorem flat_append (a b : List FV) : flat (a ++ b) = flat a ++ flat b := by simp [flat]
theorem flat_cons (f : FV) (b : List FV) : flat (f :: b) = f.cells ++ flat b := by simp [flat]
theorem flat_one (f : FV) : flat [f] = f.cells := by simp [flat]
theorem flat_take (fs : List FV) (i : Nat) : flat (fs.take i) = (flat fs).take (i * 38) := by
  induction fs generalizing i with
  | nil => simp [flat]
  | cons f fs ih =>
    cases i with
    | zero => simp [flat]
    | succ i => rw [List.take_succ_cons, flat_cons, flat_cons, ih, List.take_append, f.len, List.take_of_length_le (l := f.cells) (by rw [f.len]; omega), show (i + 1) * 38 - 38 = i * 38 by omega]
theorem flat_drop (fs : List FV) (i : Nat) : flat (fs.drop i) = (flat fs).drop (i * 38) := by
  induction fs generalizing i with
  | nil => simp [flat]
  | cons f fs ih =>
    cases i with
    | zero => simp [flat]
    | succ i => rw [List.drop_succ_cons, flat_cons, ih, List.drop_append, f.len, List.drop_of_length_le (l := f.cells) (by rw [f.len]; omega), List.nil_append, show (i + 1) * 38 - 38 = i * 38 by omega]
theorem flat_split {fs : List FV} {i : Nat} {f : FV} (h : fs[i]? = some f) : flat fs = flat (fs.take i) ++ f.cells ++ flat (fs.drop (i + 1)) := by
  obtain ⟨hi, e⟩ := List.getElem?_eq_some_iff.1 h
  rw [← flat_one f, ← flat_append, ← flat_append, ← e]
  congr 1
  rw [List.append_assoc, List.singleton_append, List.getElem_cons_drop, List.take_append_drop]
theorem FV.one (f : FV) : ∀ u ∈ f.cells, u.oneCell' = true := by
  intro u hu
  simp only [FV.cells, MV.cells, List.mem_append, List.mem_cons, List.mem_map, List.not_mem_nil, or_false] at hu
  rcases hu with (rfl | rfl | rfl) | (rfl | rfl | rfl) | ⟨_, _, rfl⟩ <;> rfl
theorem flat_one' (fs : List FV) : ∀ u ∈ flat fs, u.oneCell' = true := by
  intro u hu
  simp only [flat, List.mem_flatMap] at hu
  obtain ⟨f, _, hu⟩ := hu
  exact f.one u hu

/-- The slice v holds the facts fs. -/
def FSl (w : World) (v : Value) (fs : List FV) : Prop :=
  ∃ va cap, v = .slice va fs.length cap ∧ fs.length ≤ cap ∧ cap ≤ maxLen ∧ (va = none → cap = 0) ∧ ∀ a, va = some a → True ∧ At w a (flat fs)
/-- .. in memory from block B on. -/
def OSl (B : Nat) (w : World) (v : Value) (fs : List FV) : Prop := w.ownsRow B 31 38 v fs.length (flat fs)

theorem OSl.fsl {B : Nat} {w : World} {v : Value} {fs : List FV} (h : OSl B w v fs) : FSl w v fs := by
  have hc := fun g hg => World.ownsRow.cells (g := g) h hg
  obtain ⟨h1, h2⟩ := h
  rcases h2 with ⟨rfl, h0⟩ | ⟨g, cap, cur, rfl, hb, hg, hn, hm, hs, ht⟩
  · exact ⟨none, 0, by rw [h0], by omega, by simp, fun _ => rfl, fun a ha => by cases ha⟩
  · refine ⟨some ⟨g, 0, none⟩, cap, rfl, hn, hm, fun h => (by cases h), fun a ha => ?_⟩
    cases ha
    exact ⟨trivial, hc g rfl⟩

theorem At.spot {w : World} {a : Addr} {cs : List Value} (h : At w a cs) (hne : cs ≠ []) : a.spot = none := by
  cases cs with
  | nil => exact absurd rfl hne
  | cons v l =>
    have := h 0 v rfl
    rw [Addr.add_zero'] at this
    unfold World.cell? at this
    split at this
    · cases hs : a.spot with
      | none => rfl
      | some x => rw [hs] at this; simp at this
    · cases this
theorem FSl.below {B : Nat} {w w' : World} {v : Value} {fs : List FV} (h : FSl w v fs) (hb : Below B w w') (hB : w.heap.size ≤ B) : FSl w' v fs := by
  obtain ⟨va, cap, rfl, h1, h2, h3, h4⟩ := h
  refine ⟨va, cap, rfl, h1, h2, h3, fun a ha => ⟨(h4 a ha).1, ?_⟩⟩
  by_cases hn : flat fs = []
  · rw [hn]; intro j v hv; cases hv
  · exact (h4 a ha).2.below hb (Nat.lt_of_lt_of_le ((h4 a ha).2.lt hn) hB)
theorem FSl.elem {w : World} {va : Option Addr} {n cap : Nat} {fs : List FV} (h : FSl w (.slice va n cap) fs) {i : Nat} {f : FV} (hi : fs[i]? = some f) :
    ∃ b o, va = some ⟨b, o, none⟩ ∧ At w ⟨b, o + i * 38, none⟩ f.cells := by
  obtain ⟨va', cap', e, h1, h2, h3, h4⟩ := h
  cases e
  obtain ⟨hi', _⟩ := List.getElem?_eq_some_iff.1 hi
  cases va with
  | none => have := h3 rfl; omega
  | some a =>
    obtain ⟨b, o, s⟩ := a
    obtain ⟨_, hat⟩ := h4 _ rfl
    have hs : s = none := hat.spot (by rw [flat_split hi]; simp [FV.ne])
    subst hs
    refine ⟨b, o, rfl, ?_⟩
    rw [flat_split hi] at hat
    have := At.part hat
    rwa [flat_len, List.length_take, Nat.min_eq_left (by omega)] at this
theorem FSl.len {w : World} {va : Option Addr} {n cap : Nat} {fs : List FV} (h : FSl w (.slice va n cap) fs) : n = fs.length ∧ n ≤ cap ∧ cap ≤ maxLen ∧ (va = none → cap = 0) := by
  obtain ⟨va', cap', e, h1, h2, h3, h4⟩ := h
  cases e
  exact ⟨rfl, h1, h2, h3⟩
theorem FSl.nil (w : World) : FSl w (.slice none 0 0) [] := ⟨none, 0, rfl, by simp, by simp, fun _ => rfl, fun a ha => by cases ha⟩

theorem Try.info31 : (Try.prog.info? 31).map (fun i => (i.zero, i.size, i.bytes)) = some (some (.agg (FV0 0 0 0).arr), 38, 96) := by kernel_rfl
theorem Try.und23 : Try.prog.underlying 23 = some (.slice 31) := by kernel_rfl

@[go_sem] theorem run_bldS0 (w : World) : (bldS 23 0 #[]).run Try.prog w = .ok (.slice (some ⟨w.heap.size, 0, none⟩) 0 0) (w.alloc (.cells #[] 31)) := by
  unfold bldS; kernel_rfl

@[go_sem high] theorem eql23_some (a : Addr) (n c : Nat) (w : World) : (binOp .eql 23 (.slice (some a) n c) (.slice none 0 0)).run Try.prog w = .ok (.bool false) w := by kernel_rfl
@[go_sem high] theorem eql23_none (w : World) : (binOp .eql 23 (.slice none 0 0) (.slice none 0 0)).run Try.prog w = .ok (.bool true) w := by kernel_rfl
@[go_sem high] theorem eql26_some (a : Addr) (n c : Nat) (w : World) : (binOp .eql 26 (.slice (some a) n c) (.slice none 0 0)).run Try.prog w = .ok (.bool false) w := by kernel_rfl
@[go_sem high] theorem eql26_none (w : World) : (binOp .eql 26 (.slice none 0 0) (.slice none 0 0)).run Try.prog w = .ok (.bool true) w := by kernel_rfl

theorem At.alloc' {w : World} {a : Addr} {cs : List Value} (h : At w a cs) (o : Obj) : At (w.alloc o) a cs := by
  by_cases hn : cs = []
  · subst hn; intro j v hv; cases hv
  · exact h.alloc (h.lt hn) o
theorem grown_own {w w' : World} {v : Value} {B e s n : Nat} {xs : List Value} {w0 : World} (hb : Below B w0 w) (hg : w.grownBy w' v.ownBlock) (hB : B ≤ w.heap.size) (ho : w.ownsRow B e s v n xs) : Below B w0 w' :=
  hb.grown hg hB (fun k hk => (ho.lt k hk).1)

set_option maxHeartbeats 800000 in
theorem clone_any (v : Value) (fs : List FV) (w : World) (h : FSl w v fs) (hl : fs.length ≤ 100000) :
    Calls Try.prog 26 #[v] w fun r w' => ∃ v', r = .returned v' ∧ OSl w.heap.size w' v' fs ∧ Below w.heap.size w w' := by
  obtain ⟨va, cap, rfl, h1, h2, h3, h4⟩ := h
  obtain ⟨i0, hi, hz0, hz1, hz2⟩ := info_parts Try.info31
  cases va with
  | none =>
    have hc := h3 rfl
    subst hc
    have h0 : fs = [] := List.eq_nil_of_length_eq_zero (by omega)
    subst h0
    go_enter Try.func26, Try.ntmps26
    go_wp2
    go_ret
    exact ⟨_, rfl, World.ownsRow_nil _ _ _ _, Below.refl _ _⟩
  | some a =>
    obtain ⟨hs, hat⟩ := h4 a rfl
    have hown := World.ownsRow_made (base := w.heap.size) (e := 31) (size := 38) w #[] 0 (Nat.le_refl _) (by simp) rfl
    go_enter Try.func26, Try.ntmps26
    go_wp2_with (at_builtin; refine wpList_append_own _ rfl (.tmp 5) (.tmp 6) 23 rfl w.heap.size 31 i0 (.agg (FV0 0 0 0).arr) 38 96 Try.und23 hi hz0 hz1 hz2 (FV.sz _) (by decide) _ 0 [] rfl hown a fs.length cap (flat fs) rfl (flat_len fs) ?c2 (flat_one' fs) ?c3 ?c4 ?c5 ?_)
    case c2 => exact hat.alloc' _
    case c3 => simp only [maxLen]; omega
    case c4 => omega
    case c5 => simp
    intro v' w' hown' hgr _
    go_wp2
    go_ret
    refine ⟨v', rfl, ?_, grown_own ((Below.refl _ _).al _) hgr (by simp) hown⟩
    simpa [OSl] using hown'

end Go.Proofs.Ytchfoioahgfjdaa
