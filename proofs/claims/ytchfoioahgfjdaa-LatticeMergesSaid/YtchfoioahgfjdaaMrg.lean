/- What facts hold (their bytes too); lattice.Add and lattice.Merge, so. -/
import Derived.Test.YtchfoioahgfjdaaAdd
namespace Go.Proofs.Ytchfoioahgfjdaa
open Go.RowKit

/-- A fact without its place in memory. -/
def norm (f : FV) : FV := f.withC none f.m.cl 0
theorem norm_norm (f : FV) : norm (norm f) = norm f := rfl
theorem norm_withC (f : FV) (a : Option Addr) (c : Nat) : norm (f.withC a f.m.cl c) = norm f := rfl
theorem okF_norm (n : Int) (f : FV) : okF n (norm f) = okF n f := rfl
theorem ltF_norm (f g : FV) : ltF (norm f) (norm g) = ltF f g := rfl
theorem hasF_norm (fs : List FV) (k e n : Int) : hasF (fs.map norm) k e n = hasF fs k e n := by
  unfold hasF
  rw [List.filter_map, List.any_map]
  rfl
theorem idxF_map (p : FV → Bool) (q : FV → FV) (fs : List FV) : idxF p (fs.map q) = idxF (fun f => p (q f)) fs := by
  induction fs with
  | nil => rfl
  | cons f fs ih => simp only [List.map_cons, idxF, ih]
theorem posF_norm (fs : List FV) (f : FV) : posF (fs.map norm) (norm f) = posF fs f := by
  unfold posF posI
  rw [idxF_map, List.length_map]
  rfl
theorem posF_norm' {fs gs : List FV} {f g : FV} (h : fs.map norm = gs.map norm) (hf : norm f = norm g) : posF fs f = posF gs g := by
  rw [← posF_norm fs f, h, hf, posF_norm]

/-- What is known of a fact: itself, without its place, and its chunks' bytes. -/
abbrev AF := FV × List Int
def FRd (w : World) (f : FV) (x : AF) : Prop := norm f = norm x.1 ∧ MRd w f.m x.2
def LRd (w : World) : List FV → List AF → Prop
  | [], [] => True
  | f :: fs, x :: xs => FRd w f x ∧ LRd w fs xs
  | _, _ => False

theorem LRd.len {w : World} {fs : List FV} {X : List AF} (h : LRd w fs X) : fs.length = X.length := by
  induction fs generalizing X with
  | nil => cases X with
    | nil => rfl
    | cons _ _ => exact h.elim
  | cons f fs ih => cases X with
    | nil => exact h.elim
    | cons x X => simp only [List.length_cons]; rw [ih h.2]
theorem LRd.norm {w : World} {fs : List FV} {X : List AF} (h : LRd w fs X) : fs.map norm = (X.map (·.1)).map norm := by
  induction fs generalizing X with
  | nil => cases X with
    | nil => rfl
    | cons _ _ => exact h.elim
  | cons f fs ih => cases X with
    | nil => exact h.elim
    | cons x X => simp only [List.map_cons]; rw [ih h.2, h.1.1]
theorem LRd.get {w : World} {fs : List FV} {X : List AF} (h : LRd w fs X) (i : Nat) (f : FV) (hf : fs[i]? = some f) : ∃ x, X[i]? = some x ∧ FRd w f x := by
  induction fs generalizing X i with
  | nil => simp at hf
  | cons g fs ih => cases X with
    | nil => exact h.elim
    | cons x X =>
      cases i with
      | zero => simp at hf; subst hf; exact ⟨x, rfl, h.1⟩
      | succ i => simpa using ih h.2 i (by simpa using hf)
theorem LRd.mk {w : World} {fs : List FV} {X : List AF} (hl : fs.length = X.length) (h : ∀ (i : Nat) (f : FV) (x : AF), fs[i]? = some f → X[i]? = some x → FRd w f x) : LRd w fs X := by
  induction fs generalizing X with
  | nil => cases X with
    | nil => trivial
    | cons _ _ => simp at hl
  | cons f fs ih => cases X with
    | nil => simp at hl
    | cons x X => exact ⟨h 0 f x rfl rfl, ih (by simpa using hl) fun i g y hg hy => h (i + 1) g y (by simpa using hg) (by simpa using hy)⟩
theorem LRd.imp {w w' : World} {fs : List FV} {X : List AF} (h : LRd w fs X) (hi : ∀ f ∈ fs, ∀ x, FRd w f x → FRd w' f x) : LRd w' fs X := by
  induction fs generalizing X with
  | nil => cases X with
    | nil => trivial
    | cons _ _ => exact h.elim
  | cons f fs ih => cases X with
    | nil => exact h.elim
    | cons x X => exact ⟨hi f (by simp) x h.1, ih h.2 fun g hg => hi g (by simp [hg])⟩
theorem FRd.below {B : Nat} {w w' : World} {f : FV} {x : AF} (h : FRd w f x) (hb : Below B w w') (hB : w.heap.size ≤ B) : FRd w' f x := ⟨h.1, h.2.below hb hB⟩
theorem LRd.below {B : Nat} {w w' : World} {fs : List FV} {X : List AF} (h : LRd w fs X) (hb : Below B w w') (hB : w.heap.size ≤ B) : LRd w' fs X := h.imp fun _ _ _ hf => hf.below hb hB
theorem LRd.append {w : World} {fs gs : List FV} {X Y : List AF} (h : LRd w fs X) (k : LRd w gs Y) : LRd w (fs ++ gs) (X ++ Y) := by
  induction fs generalizing X with
  | nil => cases X with
    | nil => exact k
    | cons _ _ => exact h.elim
  | cons f fs ih => cases X with
    | nil => exact h.elim
    | cons x X => exact ⟨h.1, ih h.2⟩
theorem LRd.take {w : World} {fs : List FV} {X : List AF} (h : LRd w fs X) (i : Nat) : LRd w (fs.take i) (X.take i) := by
  induction fs generalizing X i with
  | nil => cases X with
    | nil => simpa using h
    | cons _ _ => exact h.elim
  | cons f fs ih => cases X with
    | nil => exact h.elim
    | cons x X => cases i with
      | zero => trivial
      | succ i => exact ⟨h.1, ih h.2 i⟩
theorem LRd.drop {w : World} {fs : List FV} {X : List AF} (h : LRd w fs X) (i : Nat) : LRd w (fs.drop i) (X.drop i) := by
  induction fs generalizing X i with
  | nil => cases X with
    | nil => simpa using h
    | cons _ _ => exact h.elim
  | cons f fs ih => cases X with
    | nil => exact h.elim
    | cons x X => cases i with
      | zero => exact h
      | succ i => exact ih h.2 i

def heads (X : List AF) : List FV := X.map (·.1)
def insX (X : List AF) (i : Nat) (x : AF) : List AF := X.take i ++ [x] ++ X.drop i
def addX (nodes : Int) (X : List AF) (x : AF) : List AF := if addable nodes (heads X) x.1 then insX X (posF (heads X) x.1) x else X
def mergeX (nodes : Int) (X Y : List AF) : List AF := Y.foldl (addX nodes) X
theorem heads_len (X : List AF) : (heads X).length = X.length := by simp [heads]
theorem insX_len (X : List AF) (i : Nat) (x : AF) : (insX X i x).length = X.length + 1 := by
  have h : (X.take i ++ X.drop i).length = X.length := by rw [List.take_append_drop]
  simp only [insX, List.length_append, List.length_cons, List.length_nil] at h ⊢; omega
theorem addX_len (nodes : Int) (X : List AF) (x : AF) (N : Nat) (hN : 200 ≤ N) (h : X.length ≤ N) : (addX nodes X x).length ≤ N := by
  unfold addX
  split
  · rename_i ha
    have : X.length < 200 := by
      have : (heads X).length < 200 := by simp [addable] at ha; exact ha.2
      rwa [heads_len] at this
    rw [insX_len]; omega
  · exact h
theorem mergeX_len (nodes : Int) (Y : List AF) (N : Nat) (hN : 200 ≤ N) : ∀ X : List AF, X.length ≤ N → (mergeX nodes X Y).length ≤ N := by
  induction Y with
  | nil => intro X h; exact h
  | cons y Y ih => intro X h; exact ih _ (addX_len nodes X y N hN h)

theorem okF_n {f g : FV} (h : norm f = norm g) (n : Int) : okF n f = okF n g := by rw [← okF_norm n f, h, okF_norm]
theorem kind_n {f g : FV} (h : norm f = norm g) : f.kind = g.kind := congrArg FV.kind (a₁ := norm f) (a₂ := norm g) h
theorem epoch_n {f g : FV} (h : norm f = norm g) : f.epoch = g.epoch := congrArg FV.epoch (a₁ := norm f) (a₂ := norm g) h
theorem node_n {f g : FV} (h : norm f = norm g) : f.node = g.node := congrArg FV.node (a₁ := norm f) (a₂ := norm g) h
theorem cl_n {f g : FV} (h : norm f = norm g) : f.m.cl = g.m.cl := congrArg (fun f : FV => f.m.cl) (a₁ := norm f) (a₂ := norm g) h
theorem hasF_n {fs gs : List FV} (h : fs.map norm = gs.map norm) (k e n : Int) : hasF fs k e n = hasF gs k e n := by rw [← hasF_norm fs, h, hasF_norm]
theorem len_n {fs gs : List FV} (h : fs.map norm = gs.map norm) : fs.length = gs.length := by have := congrArg List.length h; simpa using this
theorem addErr_n {fs gs : List FV} {f g : FV} (h : fs.map norm = gs.map norm) (hf : norm f = norm g) (n : Int) : addErr n fs f = addErr n gs g := by
  unfold addErr; rw [okF_n hf, kind_n hf, epoch_n hf, node_n hf, hasF_n h, len_n h]
theorem addable_n {fs gs : List FV} {f g : FV} (h : fs.map norm = gs.map norm) (hf : norm f = norm g) (n : Int) : addable n fs f = addable n gs g := by
  unfold addable; rw [okF_n hf, kind_n hf, epoch_n hf, node_n hf, hasF_n h, len_n h]

/-- Of these facts, each is one of those, or its chunks lie from B on. -/
def From (B : Nat) (ls gs : List FV) : Prop := ∀ g ∈ gs, g ∈ ls ∨ ∀ y, g.m.ca = some y → B ≤ y.block
theorem From.refl (B : Nat) (ls : List FV) : From B ls ls := fun _ h => .inl h
theorem From.trans {B : Nat} {ls bs cs : List FV} (h : From B ls bs) (k : From B bs cs) : From B ls cs := fun g hg => (k g hg).elim (fun h' => h g h') .inr
theorem From.mono {B B' : Nat} {ls bs : List FV} (h : From B ls bs) (hB : B' ≤ B) : From B' ls bs := fun g hg => (h g hg).imp id fun h' y hy => Nat.le_trans hB (h' y hy)

theorem add_any (nodes : Int) (v : Value) (fs : List FV) (X : List AF) (f : FV) (x : AF) (w : World) (h : FSl w v fs) (hX : LRd w fs X) (hx : FRd w f x) (hcl : f.m.cl ≤ 100000) (hl : fs.length ≤ 1000) :
    Calls Try.prog 17 #[.int .i64 nodes, v, .agg f.arr] w fun r w' => ∃ v' gs, r = .returned (.tuple #[v', .int .i64 (addErr nodes (heads X) x.1)]) ∧ OSl w.heap.size w' v' gs ∧ LRd w' gs (addX nodes X x) ∧
      From w.heap.size fs gs ∧ Below w.heap.size w w' := by
  have hn := hX.norm
  have e1 : addErr nodes (heads X) x.1 = addErr nodes fs f := (addErr_n hn hx.1 nodes).symm
  have e2 : addable nodes (heads X) x.1 = addable nodes fs f := (addable_n hn hx.1 nodes).symm
  have e3 : posF (heads X) x.1 = posF fs f := (posF_norm' hn hx.1).symm
  rw [e1]
  unfold addX
  rw [e2, e3]
  obtain ⟨va, cap, rfl, hr⟩ := h
  have h : FSl w (.slice va fs.length cap) fs := ⟨va, cap, rfl, hr⟩
  cases hok : okF nodes f with
  | false =>
    have a0 : addErr nodes fs f = 100 := by unfold addErr; rw [hok]; rfl
    have a1 : addable nodes fs f = false := by unfold addable; rw [hok]; rfl
    rw [a0, a1]
    exact (add_bad nodes va _ cap fs f w h hl hok).mono fun e w' ⟨v', he, ho, hb⟩ => ⟨v', fs, he, ho, hX.below hb (Nat.le_refl _), From.refl _ _, hb⟩
  | true =>
    cases hh : hasF fs f.kind f.epoch f.node with
    | true =>
      have a0 : addErr nodes fs f = 0 := by unfold addErr; rw [hok, hh]; rfl
      have a1 : addable nodes fs f = false := by unfold addable; rw [hok, hh]; rfl
      rw [a0, a1]
      exact (add_has nodes va _ cap fs f w h hl hok hh).mono fun e w' ⟨v', he, ho, hb⟩ => ⟨v', fs, he, ho, hX.below hb (Nat.le_refl _), From.refl _ _, hb⟩
    | false =>
      rcases Nat.lt_or_ge fs.length 200 with hf | hf
      · have a0 : addErr nodes fs f = 0 := by unfold addErr; rw [hok, hh, if_pos rfl, if_neg (by simp), if_neg (by omega)]
        have a1 : addable nodes fs f = true := by unfold addable; rw [hok, hh]; simp [hf]
        rw [a0, a1]
        refine (add_new nodes va _ cap fs f x.2 w h hx.2 hcl hok hh hf).mono fun e w' ⟨v', a, c, he, ho, hm, hnew, hb⟩ => ⟨v', _, he, ho, ?_, ?_, hb⟩
        · have hX' := hX.below hb (Nat.le_refl _)
          rw [if_pos rfl]
          exact ((hX'.take _).append (gs := [f.withC a f.m.cl c]) (Y := [x]) ⟨⟨by rw [norm_withC]; exact hx.1, hm⟩, trivial⟩).append (hX'.drop _)
        · intro g hg
          simp only [insF, List.mem_append, List.mem_singleton] at hg
          rcases hg with (hg | rfl) | hg
          · exact .inl (List.mem_of_mem_take hg)
          · exact .inr fun y hy => hnew y hy
          · exact .inl (List.mem_of_mem_drop hg)
      · have a0 : addErr nodes fs f = 110 := by unfold addErr; rw [hok, hh, if_pos rfl, if_neg (by simp), if_pos hf]
        have a1 : addable nodes fs f = false := by unfold addable; rw [hok, hh]; simp; omega
        rw [a0, a1]
        exact (add_full nodes va _ cap fs f w h hl hok hh hf).mono fun e w' ⟨v', he, ho, hb⟩ => ⟨v', fs, he, ho, hX.below hb (Nat.le_refl _), From.refl _ _, hb⟩

theorem mergeX_succ {nodes : Int} {X Y : List AF} {k : Nat} {y : AF} (h : Y[k]? = some y) : mergeX nodes X (Y.take (k + 1)) = addX nodes (mergeX nodes X (Y.take k)) y := by
  unfold mergeX; rw [take_snoc' h, List.foldl_append]; rfl

set_option maxHeartbeats 3200000 in
theorem merge_any (nodes : Int) (v : Value) (fs : List FV) (X : List AF) (vb : Option Addr) (n cap : Nat) (bl : List FV) (Y : List AF) (w : World) (h : FSl w v fs) (hX : LRd w fs X) (hb : FSl w (.slice vb n cap) bl) (hY : LRd w bl Y)
    (hcl : ∀ f ∈ bl, f.m.cl ≤ 100000) (hl : fs.length ≤ 1000) (hlb : bl.length ≤ 100000) :
    Calls Try.prog 14 #[.int .i64 nodes, v, .slice vb n cap] w fun r w' => ∃ v' gs, r = .returned v' ∧ OSl w.heap.size w' v' gs ∧ LRd w' gs (mergeX nodes X Y) ∧ From w.heap.size fs gs ∧ Below w.heap.size w w' := by
  obtain ⟨rfl, hn2, hn3, hn4⟩ := hb.len
  have hXl : X.length ≤ 1000 := by rw [← hX.len]; exact hl
  have HXL := Lib.hid hXl
  have HCL := Lib.hid hcl
  have HYL := Lib.hid hY.len
  clear hXl hcl
  go_enter Try.func14, Try.ntmps14
  go_wp2_with fail
  refine (clone_any v fs w h (by omega)).mono ?_
  rintro e w1 ⟨vc, rfl, hoc, hbc⟩
  have hXc := hX.below hbc (Nat.le_refl _)
  clear hX h
  go_wp2
  go_loopw [7, 14] (fun out i wr => ∃ k : Nat, k ≤ bl.length ∧ i = .int .i64 k ∧ Below w.heap.size w wr ∧ ∃ gs, OSl w.heap.size wr out gs ∧ LRd wr gs (mergeX nodes X (Y.take k)) ∧ From w.heap.size fs gs)
    (fun _ i _ => bl.length - (intOf i).toNat)
  case atStart => exact ⟨0, Nat.zero_le _, rfl, hbc, fs, hoc, hXc, From.refl _ _⟩
  case round =>
    obtain ⟨k, hk, rfl, hbel, gs, hown, hLR, hfr⟩ := hrel
    have hsz := hbel.size
    by_cases hlt : k < bl.length
    · obtain ⟨f, hf⟩ : ∃ f, bl[k]? = some f := ⟨_, List.getElem?_eq_getElem hlt⟩
      obtain ⟨y, hy, hfy⟩ := hY.get k f hf
      obtain ⟨b, o, rfl, hat⟩ := (hb.below hbel (Nat.le_refl _)).elem hf
      have hld := run_ld31 f _ _ hat
      have hfy1 := hfy.below (hbel.al (.cells f.arr 31)) (Nat.le_refl _)
      have hbw : Below wr.heap.size wr (wr.alloc (.cells f.arr 31)) := (Below.refl _ _).al _
      have hLR1 := hLR.below hbw (Nat.le_refl _)
      have hown1 := hown.alloc (.cells f.arr 31)
      have hgl : gs.length ≤ 1000 := by rw [hLR.len]; exact mergeX_len nodes _ 1000 (by omega) X HXL.out
      have hc := HCL.out f (List.mem_of_getElem? hf)
      have HY := Lib.hid (mergeX_succ (nodes := nodes) (X := X) hy)
      clear hat hf hy hfy hLR hown
      go_wp2_with fail
      refine (add_any nodes _ gs _ f y _ hown1.fsl hLR1 hfy1 hc hgl).mono ?_
      rintro e w2 ⟨v', gs2, rfl, ho2, hL2, hf2, hb2⟩
      have hbel2 : Below w.heap.size w w2 := (hbel.al _).trans (hb2.mono (by simp; omega))
      have hfr2 := hfr.trans (hf2.mono (B' := w.heap.size) (by simp; omega))
      have ho3 := ho2.mono (B' := w.heap.size) (by simp; omega)
      clear hgl hc ho2 hf2 hfr hown1 hLR1 hfy1
      go_wp2
      go_roundw
      case rel => exact ⟨k + 1, by omega, by simp, hbel2, gs2, ho3, by rw [HY.out]; exact hL2, hfr2⟩
      case measure => simp [intOf]; omega
    · obtain rfl : k = bl.length := by omega
      have hLR' : LRd wr gs (mergeX nodes X Y) := by rwa [List.take_of_length_le (by rw [← HYL.out]; exact Nat.le_refl _)] at hLR
      clear hLR
      go_wp2
      go_ret
      exact ⟨_, gs, rfl, hown, hLR', hfr, hbel⟩

end Go.Proofs.Ytchfoioahgfjdaa
