/- lattice.Has, Who, Aborted, Best, Next. -/
import Derived.Test.YtchfoioahgfjdaaIdx
namespace Go.Proofs.Ytchfoioahgfjdaa
open Go.RowKit

def hasF (fs : List FV) (k e n : Int) : Bool := (fs.filter (isB k e)).any (fun f => f.node == n)
def whoF (fs : List FV) (k e : Int) : List Int := (fs.filter (isB k e)).map FV.node

theorem idxF_any (p : FV → Bool) (fs : List FV) : decide (0 ≤ idxF p fs) = fs.any p := by
  induction fs with
  | nil => rfl
  | cons f fs ih =>
    have hb := idxF_bd p fs
    simp only [idxF, List.any_cons, ← ih]
    by_cases hp : p f = true
    · simp [hp]
    · simp only [hp]
      simp
      split <;> omega

theorem OSl.shape {B : Nat} {w : World} {v : Value} {fs : List FV} (h : OSl B w v fs) : ∃ va cap, v = .slice va fs.length cap := by
  obtain ⟨va, cap, e, _⟩ := h.fsl; exact ⟨va, cap, e⟩

set_option maxHeartbeats 800000 in
theorem has_any (va : Option Addr) (n cap : Nat) (fs : List FV) (kd ep nd : Int) (w : World) (h : FSl w (.slice va n cap) fs) (hl : fs.length ≤ 100000) :
    Calls Try.prog 20 #[.slice va n cap, .int .i64 kd, .int .i64 ep, .int .i64 nd] w fun r w' => r = .returned (.bool (hasF fs kd ep nd)) ∧ Below w.heap.size w w' := by
  have H : Hid (hasF fs kd ep nd = decide (0 ≤ idxF (fun f : FV => f.node == nd) (fs.filter (isB kd ep)))) := by unfold Hid hasF; rw [idxF_any]
  go_enter Try.func20, Try.ntmps20
  go_wp2_with fail
  refine (all_any va n cap fs kd ep _ (h.below (Below.refl _ _ |>.al _) (Nat.le_refl _)) hl).mono ?_
  rintro e w1 ⟨v', rfl, hown, hb1⟩
  have hbel : Below w.heap.size w w1 := (Below.refl _ _ |>.al _).trans (hb1.mono (by simp))
  have hc : NCell w1 w.heap.size nd := ⟨by
    rw [hb1.cell (p := ⟨w.heap.size, 0, none⟩) (by simp), cell_of_row _ _ _ _ _ _ (heap_alloc_new w _)]; rfl⟩
  obtain ⟨va', cap', rfl⟩ := hown.shape
  have hlen := List.length_filter_le (isB kd ep) fs
  have hf := hown.fsl
  go_wp2_with fail
  refine (contains_any _ _ _ _ _ nd _ hf (by omega) hc).mono ?_
  rintro e w2 ⟨rfl, hb2⟩
  rw [← H.out]
  go_wp2
  go_ret
  exact ⟨rfl, hbel.trans (hb2.mono hbel.size)⟩

def iv (l : List Int) : List Value := l.map (.int .i64)
def ndT (gs : List FV) (k : Nat) : List Int := (gs.take k).map FV.node
theorem ndT_succ {gs : List FV} {k : Nat} {f : FV} (h : gs[k]? = some f) : ndT gs (k + 1) = ndT gs k ++ [f.node] := by unfold ndT; rw [take_snoc' h, List.map_append]; rfl
theorem ndT_len {gs : List FV} {k : Nat} (h : k ≤ gs.length) : (ndT gs k).length = k := by simp [ndT]; omega
theorem iv_append (a b : List Int) : iv (a ++ b) = iv a ++ iv b := by simp [iv]
/-- The slice v holds the numbers l, in memory from block B on. -/
def ISl (B : Nat) (w : World) (v : Value) (l : List Int) : Prop := w.ownsRow B 3 1 v l.length (iv l)
theorem ISl.mono {B B' : Nat} {w : World} {v : Value} {fs : List Int} (h : ISl B w v fs) (hB : B' ≤ B) : ISl B' w v fs := by
  obtain ⟨h1, h2⟩ := h
  refine ⟨h1, ?_⟩
  rcases h2 with h2 | ⟨g, cap, cur, hv, hg, r⟩
  · exact .inl h2
  · exact .inr ⟨g, cap, cur, hv, Nat.le_trans hB hg, r⟩
theorem Try.info3 : (Try.prog.info? 3).map (fun i => (i.zero, i.size, i.bytes)) = some (some (.int .i64 0), 1, 8) := by kernel_rfl
theorem Try.und46 : Try.prog.underlying 46 = some (.slice 3) := by kernel_rfl
theorem ISl.below {B : Nat} {w w' : World} {v : Value} {l : List Int} (h : ISl B w v l) (hb : Below w.heap.size w w') : ISl B w' v l :=
  World.ownsRow.kept h (Below.gb hb) (by cases hv : v.ownBlock <;> simp)
theorem ISl.shape {B : Nat} {w : World} {v : Value} {l : List Int} (h : ISl B w v l) : ∃ va cap, v = .slice va l.length cap := by
  obtain ⟨_, h2⟩ := h
  rcases h2 with ⟨rfl, h0⟩ | ⟨g, cap, cur, rfl, _⟩
  · exact ⟨none, 0, by rw [h0]⟩
  · exact ⟨_, _, rfl⟩

theorem FV.nd {w : World} {g : Nat} {f : FV} (h : FBlk w g f) : w.cell? ⟨g, 2, none⟩ = some (.int .i64 f.node) := by
  rw [h.cell]; simp [FV.arr, FV.cells]
theorem FV.ep {w : World} {g : Nat} {f : FV} (h : FBlk w g f) : w.cell? ⟨g, 1, none⟩ = some (.int .i64 f.epoch) := by
  rw [h.cell]; simp [FV.arr, FV.cells]

set_option maxHeartbeats 1600000 in
theorem who_any (va : Option Addr) (n cap : Nat) (fs : List FV) (kd ep : Int) (w : World) (h : FSl w (.slice va n cap) fs) (hl : fs.length ≤ 100000) :
    Calls Try.prog 21 #[.slice va n cap, .int .i64 kd, .int .i64 ep] w fun r w' => ∃ v', r = .returned v' ∧ ISl w.heap.size w' v' (whoF fs kd ep) ∧ Below w.heap.size w w' := by
  obtain ⟨i0, hi, hz0, hz1, hz2⟩ := info_parts Try.info3
  go_enter Try.func21, Try.ntmps21
  go_wp2_with fail
  refine (all_any va n cap fs kd ep _ h hl).mono ?_
  rintro e w1 ⟨v', rfl, hown, hb1⟩
  have hlen := List.length_filter_le (isB kd ep) fs
  have H : Hid (whoF fs kd ep = (fs.filter (isB kd ep)).map FV.node) := rfl
  generalize fs.filter (isB kd ep) = gs at *
  obtain ⟨va', cap', rfl⟩ := hown.shape
  have hf := hown.fsl
  have hle : gs.length ≤ 100000 := by omega
  clear hlen hown
  go_wp2
  go_loopw [6, 14] (fun out i wr => ∃ k : Nat, k ≤ gs.length ∧ i = .int .i64 k ∧ ISl w1.heap.size wr out (ndT gs k) ∧ Below w1.heap.size w1 wr)
    (fun _ i _ => gs.length - (intOf i).toNat)
  case atStart => exact ⟨0, Nat.zero_le _, rfl, World.ownsRow_nil _ _ _ _, Below.refl _ _⟩
  case round =>
    obtain ⟨k, hk, rfl, hown, hbel⟩ := hrel
    have hsz := hbel.size
    have hsz1 := hb1.size
    by_cases hlt : k < gs.length
    · obtain ⟨f, hfk⟩ : ∃ f, gs[k]? = some f := ⟨_, List.getElem?_eq_getElem hlt⟩
      obtain ⟨b, o, rfl, hat⟩ := (hf.below hbel (Nat.le_refl _)).elem hfk
      have hld := run_ld31 f _ _ hat
      have hm := ndT_len hk
      have HF := Lib.hid hfk
      have HM := Lib.hid hm
      have hm1 : (ndT gs k).length ≤ 100000 := by omega
      clear hat hfk hm
      go_wp2_with (at_builtin; refine wpList_append_own _ rfl (.tmp 18) (.tmp 21) 46 rfl w1.heap.size 3 i0 (.int .i64 0) 1 8 Try.und46 hi hz0 hz1 hz2 rfl (by decide) _ _ _ rfl ((hown.alloc _).alloc _) ⟨wr.heap.size + 1, 0, none⟩ 1 1 [.int .i64 f.node] rfl rfl ?c2 ?c1 ?c3 ?c4 ?c5 ?_)
      case c2 => intro j u hu; match j, hu with | 0, hu => simp at hu; subst hu; simp [Addr.add]
      case c1 => intro u hu; simp at hu; subst hu; rfl
      case c3 => simp only [maxLen]; omega
      case c4 => omega
      case c5 => first | omega | (simp; omega)
      intro v' w2 hown2 hgr _
      have hbel2 : Below w1.heap.size w1 w2 := grown_own (hbel.al _ |>.al _) hgr (by simp; omega) ((World.ownsRow.alloc hown _).alloc _)
      clear hown hgr
      go_wp2
      go_roundw
      case rel => exact ⟨k + 1, by omega, by simp, by rw [ndT_succ HF.out]; unfold ISl; rw [iv_append, List.length_append]; exact hown2, hbel2⟩
      case measure => simp [intOf]; omega
    · obtain rfl : k = gs.length := by omega
      go_wp2
      go_ret
      exact ⟨_, rfl, by rw [ndT, List.take_length] at hown; rw [H.out]; exact hown.mono hb1.size, hb1.trans (hbel.mono hb1.size)⟩

set_option maxHeartbeats 800000 in
theorem aborted_any (va : Option Addr) (n cap : Nat) (fs : List FV) (ep mj : Int) (w : World) (h : FSl w (.slice va n cap) fs) (hl : fs.length ≤ 100000) :
    Calls Try.prog 22 #[.slice va n cap, .int .i64 ep, .int .i64 mj] w fun r w' => r = .returned (.bool (decide (mj ≤ ((whoF fs 3 ep).length : Int)))) ∧ Below w.heap.size w w' := by
  go_enter Try.func22, Try.ntmps22
  go_wp2_with fail
  refine (who_any va n cap fs 3 ep _ h hl).mono ?_
  rintro e w1 ⟨v', rfl, hown, hb1⟩
  obtain ⟨va', cap', rfl⟩ := hown.shape
  generalize hL : (whoF fs 3 ep).length = L at *
  have HL := Lib.hid hL
  clear hL hown
  go_wp2
  go_ret
  exact ⟨by rw [HL.out]; rfl, hb1⟩

/-- The best epoch of the facts fs, when the published ones among them are gs. -/
def bestF (fs : List FV) (mj : Int) : List FV → Int → Int
  | [], b => b
  | g :: gs, b => bestF fs mj gs (if b < g.epoch ∧ ¬ mj ≤ ((whoF fs 3 g.epoch).length : Int) then g.epoch else b)
theorem bestF_snoc (fs : List FV) (mj : Int) (gs : List FV) (g : FV) : ∀ b, bestF fs mj (gs ++ [g]) b = (if bestF fs mj gs b < g.epoch ∧ ¬ mj ≤ ((whoF fs 3 g.epoch).length : Int) then g.epoch else bestF fs mj gs b) := by
  induction gs with
  | nil => intro b; rfl
  | cons x gs ih => intro b; exact ih _
def bestT (fs : List FV) (mj : Int) (gs : List FV) (k : Nat) : Int := bestF fs mj (gs.take k) 0
theorem bestT_yes {fs : List FV} {mj : Int} {gs : List FV} {k : Nat} {f : FV} (h : gs[k]? = some f) (h1 : bestT fs mj gs k < f.epoch) (h2 : decide (mj ≤ ((whoF fs 3 f.epoch).length : Int)) = false) : bestT fs mj gs (k + 1) = f.epoch := by
  unfold bestT at *; rw [take_snoc' h, bestF_snoc, if_pos ⟨h1, by simpa using h2⟩]
theorem bestT_no1 {fs : List FV} {mj : Int} {gs : List FV} {k : Nat} {f : FV} (h : gs[k]? = some f) (h1 : ¬ bestT fs mj gs k < f.epoch) : bestT fs mj gs (k + 1) = bestT fs mj gs k := by
  unfold bestT at *; rw [take_snoc' h, bestF_snoc, if_neg (fun h => h1 h.1)]
theorem bestT_no2 {fs : List FV} {mj : Int} {gs : List FV} {k : Nat} {f : FV} (h : gs[k]? = some f) (h2 : decide (mj ≤ ((whoF fs 3 f.epoch).length : Int)) = true) : bestT fs mj gs (k + 1) = bestT fs mj gs k := by
  unfold bestT at *; rw [take_snoc' h, bestF_snoc, if_neg (fun h => h.2 (by simpa using h2))]

set_option maxHeartbeats 1600000 in
theorem best_any (va : Option Addr) (n cap : Nat) (fs : List FV) (mj : Int) (w : World) (h : FSl w (.slice va n cap) fs) (hl : fs.length ≤ 100000) :
    Calls Try.prog 23 #[.slice va n cap, .int .i64 mj] w fun r w' => r = .returned (.int .i64 (bestF fs mj (fs.filter fun f : FV => f.kind == 1) 0)) ∧ Below w.heap.size w w' := by
  go_enter Try.func23, Try.ntmps23
  go_wp2_with fail
  refine (kept_best va n cap fs _ h hl).mono ?_
  rintro e w1 ⟨v', rfl, hown, hb1⟩
  have hlen := List.length_filter_le (fun f : FV => f.kind == 1) fs
  have H : Hid (fs.filter (fun f : FV => f.kind == 1) = fs.filter (fun f : FV => f.kind == 1)) := rfl
  generalize hgs : fs.filter (fun f : FV => f.kind == 1) = gs at *
  have HG := Lib.hid hgs
  obtain ⟨va', cap', rfl⟩ := hown.shape
  have hf := hown.fsl
  have hle : gs.length ≤ 100000 := by omega
  clear hlen hown hgs H
  go_wp2
  go_loopw [4, 10] (fun out i wr => ∃ k : Nat, k ≤ gs.length ∧ i = .int .i64 k ∧ out = .int .i64 (bestT fs mj gs k) ∧ Below w1.heap.size w1 wr)
    (fun _ i _ => gs.length - (intOf i).toNat)
  case atStart => exact ⟨0, Nat.zero_le _, rfl, rfl, Below.refl _ _⟩
  case round =>
    obtain ⟨k, hk, rfl, rfl, hbel⟩ := hrel
    have hsz := hbel.size
    have hsz1 := hb1.size
    by_cases hlt : k < gs.length
    · obtain ⟨f, hfk⟩ : ∃ f, gs[k]? = some f := ⟨_, List.getElem?_eq_getElem hlt⟩
      obtain ⟨b, o, rfl, hat⟩ := (hf.below hbel (Nat.le_refl _)).elem hfk
      have hld := run_ld31 f _ _ hat
      have HF := Lib.hid hfk
      clear hat hfk
      by_cases hgt : bestT fs mj gs k < f.epoch
      · go_wp2_with fail
        refine (aborted_any va n cap fs f.epoch mj _ (h.below ((hb1.trans (hbel.mono hb1.size)).al _) (Nat.le_refl _)) hl).mono ?_
        rintro e w2 ⟨rfl, hb2⟩
        have hblk := (FBlk.new wr f).below hb2 (by simp)
        have hep := FV.ep hblk
        have hbel2 : Below w1.heap.size w1 w2 := (hbel.al _).trans (hb2.mono (by simp; omega))
        cases hp : decide (mj ≤ ((whoF fs 3 f.epoch).length : Int)) with
        | true =>
          have HP := Lib.hid hp
          clear hp hblk
          go_wp2
          go_roundw
          case rel => exact ⟨k + 1, by omega, by simp, by rw [bestT_no2 HF.out HP.out], hbel2⟩
          case measure => simp [intOf]; omega
        | false =>
          have HP := Lib.hid hp
          have HGT := Lib.hid hgt
          clear hp hblk
          go_wp2
          go_roundw
          case rel => exact ⟨k + 1, by omega, by simp, by rw [bestT_yes HF.out HGT.out HP.out], hbel2⟩
          case measure => simp [intOf]; omega
      · have HGT := Lib.hid hgt
        go_wp2
        go_roundw
        case rel => exact ⟨k + 1, by omega, by simp, by rw [bestT_no1 HF.out HGT.out], hbel.al _⟩
        case measure => simp [intOf]; omega
    · obtain rfl : k = gs.length := by omega
      have HT : Hid (bestT fs mj gs gs.length = bestF fs mj gs 0) := by unfold Hid bestT; rw [List.take_length]
      go_wp2
      go_ret
      exact ⟨by rw [HG.out, ← HT.out]; rfl, hb1.trans (hbel.mono hb1.size)⟩

def nextF : List FV → Int → Int
  | [], b => b
  | g :: gs, b => nextF gs (max b (ofN g.epoch + 1))
theorem nextF_snoc (gs : List FV) (g : FV) : ∀ b, nextF (gs ++ [g]) b = max (nextF gs b) (ofN g.epoch + 1) := by
  induction gs with
  | nil => intro b; rfl
  | cons x gs ih => intro b; exact ih _
theorem ofN_bd (e : Int) : 0 ≤ ofN e ∧ ofN e ≤ 68719476736 := by
  unfold ofN
  split
  · omega
  · omega
def nextT (gs : List FV) (k : Nat) : Int := nextF (gs.take k) 1
theorem nextT_succ {gs : List FV} {k : Nat} {f : FV} (h : gs[k]? = some f) : nextT gs (k + 1) = max (nextT gs k) (ofN f.epoch + 1) := by
  unfold nextT; rw [take_snoc' h, nextF_snoc]

set_option maxHeartbeats 1600000 in
theorem next_any (va : Option Addr) (n cap : Nat) (fs : List FV) (w : World) (h : FSl w (.slice va n cap) fs) (hl : fs.length ≤ 100000) :
    Calls Try.prog 24 #[.slice va n cap] w fun r w' => r = .returned (.int .i64 (nextF fs 1)) ∧ Below w.heap.size w w' := by
  obtain ⟨rfl, hn2, hn3, hn4⟩ := h.len
  go_enter Try.func24, Try.ntmps24
  go_wp2
  go_loopw [3, 10] (fun out i wr => ∃ k : Nat, k ≤ fs.length ∧ i = .int .i64 k ∧ out = .int .i64 (nextT fs k) ∧ Below w.heap.size w wr)
    (fun _ i _ => fs.length - (intOf i).toNat)
  case atStart => exact ⟨0, Nat.zero_le _, rfl, rfl, Below.refl _ _⟩
  case round =>
    obtain ⟨k, hk, rfl, rfl, hbel⟩ := hrel
    have hsz := hbel.size
    by_cases hlt : k < fs.length
    · obtain ⟨f, hfk⟩ : ∃ f, fs[k]? = some f := ⟨_, List.getElem?_eq_getElem hlt⟩
      obtain ⟨b, o, rfl, hat⟩ := (h.below hbel (Nat.le_refl _)).elem hfk
      have hld := run_ld31 f _ _ hat
      have HF := Lib.hid hfk
      have HN := Lib.hid (nextT_succ hfk)
      have hob := ofN_bd f.epoch
      clear hat hfk
      go_wp2_with (go_at_call 32; refine (of_any _ _).mono ?_; rintro e w' ⟨rfl, rfl⟩)
      go_roundw
      case rel => exact ⟨k + 1, by omega, by simp, by rw [HN.out]; congr 1; split <;> omega, hbel.al _⟩
      case measure => simp [intOf]; omega
    · obtain rfl : k = fs.length := by omega
      have HT : Hid (nextT fs fs.length = nextF fs 1) := by unfold Hid nextT; rw [List.take_length]
      go_wp2
      go_ret
      exact ⟨by rw [← HT.out]; rfl, hbel⟩

end Go.Proofs.Ytchfoioahgfjdaa
