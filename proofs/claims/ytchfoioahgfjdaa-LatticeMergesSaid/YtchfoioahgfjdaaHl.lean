/- Lists of facts in memory, for the laws' walks. -/
import Derived.Test.YtchfoioahgfjdaaOrd
namespace Go.Proofs.Ytchfoioahgfjdaa
open Go.RowKit

/-- The slice v holds the facts X. -/
def HL (w : World) (v : Value) (X : List AF) : Prop := ∃ fs, FSl w v fs ∧ LRd w fs X
theorem HL.below {w w' : World} {v : Value} {X : List AF} (h : HL w v X) (hb : Below w.heap.size w w') : HL w' v X := by
  obtain ⟨fs, h1, h2⟩ := h
  exact ⟨fs, h1.below hb (Nat.le_refl _), h2.below hb (Nat.le_refl _)⟩
theorem FRd.bytes {w : World} {f : FV} {x : AF} (h : FRd w f x) : x.2.length = 32 * x.1.m.cl := by rw [← cl_n h.1]; exact h.2.1
theorem LRd.all {w : World} {fs : List FV} {X : List AF} (h : LRd w fs X) : ∀ x ∈ X, x.2.length = 32 * x.1.m.cl := by
  induction fs generalizing X with
  | nil => cases X with
    | nil => intro x hx; simp at hx
    | cons _ _ => exact h.elim
  | cons f fs ih => cases X with
    | nil => exact h.elim
    | cons y X =>
      intro x hx
      rcases List.mem_cons.1 hx with rfl | hx
      · exact h.1.bytes
      · exact ih h.2 x hx
theorem LRd.cls {w : World} {fs : List FV} {X : List AF} {N : Nat} (h : LRd w fs X) (hX : ∀ x ∈ X, x.1.m.cl ≤ N) : ∀ f ∈ fs, f.m.cl ≤ N := by
  intro f hf
  obtain ⟨i, hi, e⟩ := List.getElem_of_mem hf
  obtain ⟨x, hx, hfx⟩ := h.get i f (by rw [List.getElem?_eq_getElem hi, e])
  rw [cl_n hfx.1]
  exact hX x (List.mem_of_getElem? hx)
theorem HL.all {w : World} {v : Value} {X : List AF} (h : HL w v X) : ∀ x ∈ X, x.2.length = 32 * x.1.m.cl := h.elim fun _ h => h.2.all
theorem HL.shape {w : World} {v : Value} {X : List AF} (h : HL w v X) : ∃ va cap, v = .slice va X.length cap := by
  obtain ⟨fs, ⟨va, cap, e, _⟩, h2⟩ := h
  exact ⟨va, cap, by rw [e, h2.len]⟩
theorem HL.nil (w : World) : HL w (.slice none 0 0) [] := ⟨[], FSl.nil w, trivial⟩

theorem merge_hl (nodes : Int) {v u : Value} {X Y : List AF} (w : World) (h : HL w v X) (k : HL w u Y) (hcl : ∀ y ∈ Y, y.1.m.cl ≤ 100000) (hX : X.length ≤ 1000) (hY : Y.length ≤ 100000) :
    Calls Try.prog 14 #[.int .i64 nodes, v, u] w fun r w' => ∃ v', r = .returned v' ∧ HL w' v' (mergeX nodes X Y) ∧ Below w.heap.size w w' := by
  obtain ⟨fs, h1, h2⟩ := h
  obtain ⟨gs, k1, k2⟩ := k
  obtain ⟨vb, cap, rfl, hr⟩ := k1
  exact (merge_any nodes v fs X vb _ cap gs Y w h1 h2 ⟨vb, cap, rfl, hr⟩ k2 (k2.cls hcl) (by rw [h2.len]; exact hX) (by rw [k2.len]; exact hY)).mono fun r w' ⟨v', gs', e, ho, hL, _, hb⟩ => ⟨v', e, ⟨gs', ho.fsl, hL⟩, hb⟩
theorem same_hl {v u : Value} {X Y : List AF} (w : World) (h : HL w v X) (k : HL w u Y) : Calls Try.prog 13 #[v, u] w fun r w' => r = .returned (.bool (eqL X Y)) ∧ Below w.heap.size w w' := by
  obtain ⟨fs, h1, h2⟩ := h
  obtain ⟨gs, k1, k2⟩ := k
  obtain ⟨va, ca, rfl, hr⟩ := h1
  obtain ⟨vb, cb, rfl, kr⟩ := k1
  exact same11_any va _ ca fs X vb _ cb gs Y w ⟨va, ca, rfl, hr⟩ h2 ⟨vb, cb, rfl, kr⟩ k2
theorem grown_hl (nodes : Int) {v : Value} {X : List AF} (mo : Nat) (w : World) (h : HL w v X) (hmo : mo ≤ 1000) :
    Calls Try.prog 11 #[.int .i64 nodes, v, .int .i64 mo] w fun r w' => ∃ v', r = .returned v' ∧ HL w' v' (grownX nodes (X.take mo)) ∧ Below w.heap.size w w' := by
  obtain ⟨fs, h1, h2⟩ := h
  obtain ⟨va, ca, rfl, hr⟩ := h1
  exact (grown_any nodes va _ ca fs X mo w ⟨va, ca, rfl, hr⟩ h2 hmo).mono fun r w' ⟨v', gs', e, ho, hL, _, hb⟩ => ⟨v', e, ⟨gs', ho.fsl, hL⟩, hb⟩
theorem plain_hl {v : Value} {X : List AF} (mo : Nat) (w : World) (h : HL w v X) (hmo : mo ≤ 1000) :
    Calls Try.prog 16 #[v, .int .i64 mo] w fun r w' => ∃ v', r = .returned v' ∧ HL w' v' ((X.take mo).filter notE) ∧ Below w.heap.size w w' := by
  obtain ⟨fs, h1, h2⟩ := h
  obtain ⟨va, ca, rfl, hr⟩ := h1
  exact (plain_any va _ ca fs X mo w ⟨va, ca, rfl, hr⟩ h2 hmo).mono fun r w' ⟨v', gs', e, ho, hL, hb⟩ => ⟨v', e, ⟨gs', ho.fsl, hL⟩, hb⟩
theorem add_hl (nodes : Int) {v : Value} {X : List AF} {f : FV} {x : AF} (w : World) (h : HL w v X) (hx : FRd w f x) (hcl : f.m.cl ≤ 100000) (hX : X.length ≤ 1000) :
    Calls Try.prog 17 #[.int .i64 nodes, v, .agg f.arr] w fun r w' => ∃ v', r = .returned (.tuple #[v', .int .i64 (addErr nodes (heads X) x.1)]) ∧ HL w' v' (addX nodes X x) ∧ Below w.heap.size w w' := by
  obtain ⟨fs, h1, h2⟩ := h
  exact (add_any nodes v fs X f x w h1 h2 hx hcl (by rw [h2.len]; exact hX)).mono fun r w' ⟨v', gs', e, ho, hL, _, hb⟩ => ⟨v', e, ⟨gs', ho.fsl, hL⟩, hb⟩
theorem has_hl {v : Value} {X : List AF} (kd ep nd : Int) (w : World) (h : HL w v X) (hX : X.length ≤ 100000) :
    Calls Try.prog 20 #[v, .int .i64 kd, .int .i64 ep, .int .i64 nd] w fun r w' => r = .returned (.bool (hasF (heads X) kd ep nd)) ∧ Below w.heap.size w w' := by
  obtain ⟨fs, h1, h2⟩ := h
  obtain ⟨va, ca, rfl, hr⟩ := h1
  refine (has_any va _ ca fs kd ep nd w ⟨va, ca, rfl, hr⟩ (by rw [h2.len]; exact hX)).mono fun r w' ⟨e, hb⟩ => ⟨?_, hb⟩
  rw [e, hasF_n h2.norm]; rfl
theorem who_hl {v : Value} {X : List AF} (kd ep : Int) (w : World) (h : HL w v X) (hX : X.length ≤ 100000) :
    Calls Try.prog 21 #[v, .int .i64 kd, .int .i64 ep] w fun r w' => ∃ v', r = .returned v' ∧ ISl w.heap.size w' v' (whoF (heads X) kd ep) ∧ Below w.heap.size w w' := by
  obtain ⟨fs, h1, h2⟩ := h
  obtain ⟨va, ca, rfl, hr⟩ := h1
  refine (who_any va _ ca fs kd ep w ⟨va, ca, rfl, hr⟩ (by rw [h2.len]; exact hX)).mono fun r w' ⟨v', e, hi, hb⟩ => ⟨v', e, ?_, hb⟩
  rw [whoF_n h2.norm] at hi; exact hi
theorem aborted_hl {v : Value} {X : List AF} (ep mj : Int) (w : World) (h : HL w v X) (hX : X.length ≤ 100000) :
    Calls Try.prog 22 #[v, .int .i64 ep, .int .i64 mj] w fun r w' => r = .returned (.bool (decide (mj ≤ ((whoF (heads X) 3 ep).length : Int)))) ∧ Below w.heap.size w w' := by
  obtain ⟨fs, h1, h2⟩ := h
  obtain ⟨va, ca, rfl, hr⟩ := h1
  refine (aborted_any va _ ca fs ep mj w ⟨va, ca, rfl, hr⟩ (by rw [h2.len]; exact hX)).mono fun r w' ⟨e, hb⟩ => ⟨?_, hb⟩
  rw [e, whoF_n h2.norm]; rfl

theorem grown_cl {n : Int} {Y : List AF} : ∀ x ∈ grownX n Y, x.1.m.cl ≤ 100 := fun x hx => by
  have := (grownX_ok n Y x hx).2.1
  simpa [few] using this
theorem merge_cl {n : Int} {X Y : List AF} {N : Nat} (hX : ∀ x ∈ X, x.1.m.cl ≤ N) (hY : ∀ x ∈ Y, x.1.m.cl ≤ N) : ∀ x ∈ mergeX n X Y, x.1.m.cl ≤ N := fun x hx => (mergeX_mem hx).elim (hX x) fun h => hY x h.1
theorem cl_up {X : List AF} (h : ∀ x ∈ X, x.1.m.cl ≤ 100) : ∀ x ∈ X, x.1.m.cl ≤ 100000 := fun x hx => Nat.le_trans (h x hx) (by decide)

end Go.Proofs.Ytchfoioahgfjdaa
