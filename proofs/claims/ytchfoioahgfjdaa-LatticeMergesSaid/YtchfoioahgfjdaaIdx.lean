/- slices.IndexFunc at the two closures; lattice.all, Has, Who, Aborted. -/
import Derived.Test.YtchfoioahgfjdaaKept
namespace Go.Proofs.Ytchfoioahgfjdaa
open Go.RowKit

/-- The first place at which something is so; -1. -/
def idxF (p : FV → Bool) : List FV → Int
  | [] => -1
  | f :: fs => if p f then 0 else if idxF p fs < 0 then -1 else idxF p fs + 1
theorem idxF_bd (p : FV → Bool) (fs : List FV) : -1 ≤ idxF p fs ∧ idxF p fs < fs.length := by
  induction fs with
  | nil => simp [idxF]
  | cons f fs ih =>
    simp only [idxF, List.length_cons]
    split
    · omega
    · split <;> omega
theorem idxF_hit (p : FV → Bool) (fs : List FV) (k : Nat) (f : FV) (h : fs[k]? = some f) (hp : p f = true) (hno : ∀ j, j < k → ∀ g, fs[j]? = some g → p g = false) : idxF p fs = k := by
  induction fs generalizing k with
  | nil => simp at h
  | cons g fs ih =>
    cases k with
    | zero => simp at h; subst h; simp [idxF, hp]
    | succ k =>
      have h0 := hno 0 (by omega) g rfl
      have := ih k (by simpa using h) (fun j hj g' hg' => hno (j + 1) (by omega) g' (by simpa using hg'))
      simp only [idxF, h0, this]
      simp
      omega
theorem idxF_miss (p : FV → Bool) (fs : List FV) (hno : ∀ j, j < fs.length → ∀ g, fs[j]? = some g → p g = false) : idxF p fs = -1 := by
  induction fs with
  | nil => rfl
  | cons g fs ih =>
    have h0 := hno 0 (by simp) g rfl
    have := ih (fun j hj g' hg' => hno (j + 1) (by simp; omega) g' (by simpa using hg'))
    simp [idxF, h0, this]

/-- A cell that holds a number, below. -/
structure NCell (w : World) (b : Nat) (n : Int) : Prop where
  cell : w.cell? ⟨b, 0, none⟩ = some (.int .i64 n)
theorem NCell.below' {w w' : World} {b : Nat} {n : Int} (h : NCell w b n) (hb : Below w.heap.size w w') : NCell w' b n :=
  ⟨(hb.cell (block_lt_of_cell (a := ⟨b, 0, none⟩) h.cell)).trans h.cell⟩
theorem FBlk.below' {w w' : World} {b : Nat} {f : FV} (h : FBlk w b f) (hb : Below w.heap.size w w') : FBlk w' b f := h.below hb h.lt

set_option maxHeartbeats 1600000 in
theorem index_has (va : Option Addr) (n cap : Nat) (fs : List FV) (b0 : Nat) (nd : Int) (w : World) (h : FSl w (.slice va n cap) fs) (hl : fs.length ≤ 100000) (hq : NCell w b0 nd) :
    Calls Try.prog 28 #[.slice va n cap, .func (.func 38) #[] #[.pointer (some ⟨b0, 0, none⟩)]] w fun r w' => r = .returned (.int .i64 (idxF (fun f : FV => f.node == nd) fs)) ∧ Below w.heap.size w w' := by
  obtain ⟨rfl, hn2, hn3, hn4⟩ := h.len
  have HQ := Lib.hid hq
  clear hq
  go_enter Try.func28, Try.ntmps28
  go_wp2
  go_loopw [8] (fun i wr => ∃ k : Nat, k ≤ fs.length ∧ i = .int .i64 k ∧ Hid (∀ j, j < k → ∀ g, fs[j]? = some g → (fun f : FV => f.node == nd) g = false) ∧ Below w.heap.size w wr)
    (fun i _ => fs.length - (intOf i).toNat)
  case atStart => exact ⟨0, Nat.zero_le _, rfl, fun j hj => by omega, Below.refl _ _⟩
  case round =>
    obtain ⟨k, hk, rfl, hno, hbel⟩ := hrel
    have hq := HQ.out.below' hbel
    by_cases hlt : k < fs.length
    · obtain ⟨f, hf⟩ : ∃ f, fs[k]? = some f := ⟨_, List.getElem?_eq_getElem hlt⟩
      obtain ⟨b, o, rfl, hat⟩ := (h.below hbel (Nat.le_refl _)).elem hf
      have hld := run_ld31 f _ _ hat
      have HF := Lib.hid hf
      have HQ1 := Lib.hid hq
      clear hat hf hq
      go_wp2_with fail
      refine (has1_any _ _ _ _ HQ1.out.cell).mono ?_
      rintro e w1 ⟨rfl, hb1⟩
      have hbel1 : Below w.heap.size w w1 := hbel.trans (hb1.mono hbel.size)
      cases hp : (fun f : FV => f.node == nd) f with
      | false =>
        have HP := Lib.hid hp
        simp only [hp]
        clear hp
        go_wp2
        go_roundw
        case rel => exact ⟨k + 1, by omega, by simp, fun j hj g hg => by
          rcases Nat.lt_or_ge j k with hjk | hjk
          · exact hno.out j hjk g hg
          · obtain rfl : j = k := by omega
            have e := HF.out; rw [hg] at e; cases e; exact HP.out, hbel1⟩
        case measure => simp [intOf]; omega
      | true =>
        have HP := Lib.hid hp
        simp only [hp]
        clear hp
        go_wp2
        go_ret
        exact ⟨by rw [idxF_hit _ fs k f HF.out HP.out hno.out]; rfl, hbel1⟩
    · obtain rfl : k = fs.length := by omega
      go_wp2
      go_ret
      exact ⟨by rw [idxF_miss _ fs hno.out]; rfl, hbel⟩

set_option maxHeartbeats 1600000 in
theorem index_add (va : Option Addr) (n cap : Nat) (fs : List FV) (b0 : Nat) (x : FV) (w : World) (h : FSl w (.slice va n cap) fs) (hl : fs.length ≤ 100000) (hq : FBlk w b0 x) :
    Calls Try.prog 28 #[.slice va n cap, .func (.func 29) #[] #[.pointer (some ⟨b0, 0, none⟩)]] w fun r w' => r = .returned (.int .i64 (idxF (fun f : FV => !(ltF f x)) fs)) ∧ Below w.heap.size w w' := by
  obtain ⟨rfl, hn2, hn3, hn4⟩ := h.len
  have HQ := Lib.hid hq
  clear hq
  go_enter Try.func28, Try.ntmps28
  go_wp2
  go_loopw [8] (fun i wr => ∃ k : Nat, k ≤ fs.length ∧ i = .int .i64 k ∧ Hid (∀ j, j < k → ∀ g, fs[j]? = some g → (fun f : FV => !(ltF f x)) g = false) ∧ Below w.heap.size w wr)
    (fun i _ => fs.length - (intOf i).toNat)
  case atStart => exact ⟨0, Nat.zero_le _, rfl, fun j hj => by omega, Below.refl _ _⟩
  case round =>
    obtain ⟨k, hk, rfl, hno, hbel⟩ := hrel
    have hq := HQ.out.below' hbel
    by_cases hlt : k < fs.length
    · obtain ⟨f, hf⟩ : ∃ f, fs[k]? = some f := ⟨_, List.getElem?_eq_getElem hlt⟩
      obtain ⟨b, o, rfl, hat⟩ := (h.below hbel (Nat.le_refl _)).elem hf
      have hld := run_ld31 f _ _ hat
      have HF := Lib.hid hf
      have HQ1 := Lib.hid hq
      clear hat hf hq
      go_wp2_with fail
      refine (add1_any _ _ _ _ HQ1.out).mono ?_
      rintro e w1 ⟨rfl, hb1⟩
      have hbel1 : Below w.heap.size w w1 := hbel.trans (hb1.mono hbel.size)
      cases hp : (fun f : FV => !(ltF f x)) f with
      | false =>
        have HP := Lib.hid hp
        simp only [hp]
        clear hp
        go_wp2
        go_roundw
        case rel => exact ⟨k + 1, by omega, by simp, fun j hj g hg => by
          rcases Nat.lt_or_ge j k with hjk | hjk
          · exact hno.out j hjk g hg
          · obtain rfl : j = k := by omega
            have e := HF.out; rw [hg] at e; cases e; exact HP.out, hbel1⟩
        case measure => simp [intOf]; omega
      | true =>
        have HP := Lib.hid hp
        simp only [hp]
        clear hp
        go_wp2
        go_ret
        exact ⟨by rw [idxF_hit _ fs k f HF.out HP.out hno.out]; rfl, hbel1⟩
    · obtain rfl : k = fs.length := by omega
      go_wp2
      go_ret
      exact ⟨by rw [idxF_miss _ fs hno.out]; rfl, hbel⟩


set_option maxHeartbeats 800000 in
theorem contains_any (va : Option Addr) (n cap : Nat) (fs : List FV) (b0 : Nat) (nd : Int) (w : World) (h : FSl w (.slice va n cap) fs) (hl : fs.length ≤ 100000) (hq : NCell w b0 nd) :
    Calls Try.prog 36 #[.slice va n cap, .func (.func 38) #[] #[.pointer (some ⟨b0, 0, none⟩)]] w fun r w' => r = .returned (.bool (decide (0 ≤ idxF (fun f : FV => f.node == nd) fs))) ∧ Below w.heap.size w w' := by
  have hbd := idxF_bd (fun f : FV => f.node == nd) fs
  go_enter Try.func36, Try.ntmps36
  go_wp2_with fail
  refine (index_has va n cap fs b0 nd w h hl hq).mono ?_
  rintro e w1 ⟨rfl, hb1⟩
  generalize ht : idxF (fun f : FV => f.node == nd) fs = t at *
  have HT := Lib.hid ht
  clear ht
  go_wp2
  go_ret
  exact ⟨by rw [HT.out]; rfl, hb1⟩

set_option maxHeartbeats 800000 in
theorem all_any (va : Option Addr) (n cap : Nat) (fs : List FV) (kd ep : Int) (w : World) (h : FSl w (.slice va n cap) fs) (hl : fs.length ≤ 100000) :
    Calls Try.prog 37 #[.slice va n cap, .int .i64 kd, .int .i64 ep] w fun r w' => ∃ v', r = .returned v' ∧ OSl w.heap.size w' v' (fs.filter (isB kd ep)) ∧ Below w.heap.size w w' := by
  go_enter Try.func37, Try.ntmps37
  go_wp2_with fail
  refine (kept_is va n cap fs kd ep w h hl).mono ?_
  rintro e w1 ⟨v', rfl, hown, hb1⟩
  go_wp2
  go_ret
  exact ⟨_, rfl, hown, hb1⟩

end Go.Proofs.Ytchfoioahgfjdaa
