/- package manifest's and fact's functions, and the references': contracts. -/
import Derived.Test.YtchfoioahgfjdaaBase
namespace Go.Proofs.Ytchfoioahgfjdaa
open Go.RowKit

/-- 0 where something is so; else an error's number. -/
def errOf (b : Bool) (e : Int) : Int := if b then 0 else e

def chunksN (size chunk : Int) : Int :=
  if size < 1 ∨ 65536 < size ∨ chunk < 1 ∨ 4096 < chunk then 0 else if 64 < (size + chunk - 1) / chunk then 0 else (size + chunk - 1) / chunk

set_option maxHeartbeats 400000 in
theorem chunks_any (a b : Int) (w : World) :
    Calls Try.prog 48 #[.int .i64 a, .int .i64 b] w fun r w' => r = .returned (.int .i64 (chunksN a b)) ∧ w = w' := by
  by_cases h1 : a < 1
  · have H : Hid (chunksN a b = 0) := by unfold Hid chunksN; rw [if_pos (by omega)]
    go_enter Try.func48, Try.ntmps48
    go_wp2
    go_ret
    exact ⟨by rw [H.out]; rfl, rfl⟩
  by_cases h2 : 65536 < a
  · have H : Hid (chunksN a b = 0) := by unfold Hid chunksN; rw [if_pos (by omega)]
    go_enter Try.func48, Try.ntmps48
    go_wp2
    go_ret
    exact ⟨by rw [H.out]; rfl, rfl⟩
  by_cases h3 : b < 1
  · have H : Hid (chunksN a b = 0) := by unfold Hid chunksN; rw [if_pos (by omega)]
    go_enter Try.func48, Try.ntmps48
    go_wp2
    go_ret
    exact ⟨by rw [H.out]; rfl, rfl⟩
  by_cases h4 : 4096 < b
  · have H : Hid (chunksN a b = 0) := by unfold Hid chunksN; rw [if_pos (by omega)]
    go_enter Try.func48, Try.ntmps48
    go_wp2
    go_ret
    exact ⟨by rw [H.out]; rfl, rfl⟩
  by_cases h5 : 64 < (a + b - 1) / b
  · have H : Hid (chunksN a b = 0) := by unfold Hid chunksN; rw [if_neg (by omega), if_pos h5]
    go_enter Try.func48, Try.ntmps48
    go_wp2
    go_ret
    exact ⟨by rw [H.out]; rfl, rfl⟩
  · have H : Hid (chunksN a b = (a + b - 1) / b) := by unfold Hid chunksN; rw [if_neg (by omega), if_neg h5]
    go_enter Try.func48, Try.ntmps48
    go_wp2
    go_ret
    exact ⟨by rw [H.out]; rfl, rfl⟩

def okM (m : MV) : Bool := !(chunksN m.size m.chunk == 0) && ((m.cl : Int) == chunksN m.size m.chunk)

theorem chunksN_bd (a b : Int) : 0 ≤ chunksN a b ∧ chunksN a b ≤ 64 := by
  unfold chunksN
  split
  · omega
  · split
    · omega
    · have : 0 ≤ (a + b - 1) / b := Int.ediv_nonneg (by omega) (by omega)
      omega

set_option maxHeartbeats 400000 in
theorem mcheck_any (m : MV) (w : World) :
    Calls Try.prog 33 #[.agg m.arr] w fun r w' => r = .returned (.int .i64 (errOf (okM m) 50)) ∧ w' = w.alloc (.cells m.arr 29) := by
  have hk := chunksN_bd m.size m.chunk
  have H : okM m = (!(chunksN m.size m.chunk == 0) && ((m.cl : Int) == chunksN m.size m.chunk)) := rfl
  generalize hc : chunksN m.size m.chunk = c at *
  have hc' := Lib.hid hc
  clear hc
  by_cases h1 : c = 0
  · have H' : Hid (errOf (okM m) 50 = 50) := by unfold Hid; rw [H]; simp [h1, errOf]
    clear H
    go_enter Try.func33, Try.ntmps33
    go_wp2_with (go_at_call 48; refine (chunks_any _ _ _).mono ?_; rintro e w' ⟨rfl, rfl⟩; rw [hc'.out])
    go_ret
    exact ⟨by rw [H'.out]; rfl, rfl⟩
  · have hB : (c == 0) = false := by simp [h1]
    by_cases h2 : (m.cl : Int) = c
    · have hB2 : ((m.cl : Int) != c) = false := by simp [h2]
      have H' : Hid (errOf (okM m) 50 = 0) := by unfold Hid; rw [H]; simp [h1, h2, errOf]
      clear H
      go_enter Try.func33, Try.ntmps33
      go_wp2_with (go_at_call 48; refine (chunks_any _ _ _).mono ?_; rintro e w' ⟨rfl, rfl⟩; rw [hc'.out])
      go_ret
      exact ⟨by rw [H'.out]; rfl, rfl⟩
    · have hB2 : ((m.cl : Int) != c) = true := by simp [h2]
      have H' : Hid (errOf (okM m) 50 = 50) := by unfold Hid; rw [H]; simp [h2, errOf]
      clear H
      go_enter Try.func33, Try.ntmps33
      go_wp2_with (go_at_call 48; refine (chunks_any _ _ _).mono ?_; rintro e w' ⟨rfl, rfl⟩; rw [hc'.out])
      go_ret
      exact ⟨by rw [H'.out]; rfl, rfl⟩

def ofNode (e : Int) : Int := if e < 16 ∨ 1099511627776 < e then 0 else e % 16
def ofN (e : Int) : Int := if e < 16 ∨ 1099511627776 < e then 0 else e / 16

set_option maxHeartbeats 400000 in
theorem of_any (e : Int) (w : World) :
    Calls Try.prog 32 #[.int .i64 e] w fun r w' => r = .returned (.tuple #[.int .i64 (ofNode e), .int .i64 (ofN e)]) ∧ w = w' := by
  by_cases h1 : e < 16
  · go_enter Try.func32, Try.ntmps32
    go_wp2
    go_ret2
    exact ⟨by simp [ofNode, ofN, h1], rfl⟩
  · by_cases h2 : 1099511627776 < e
    · go_enter Try.func32, Try.ntmps32
      go_wp2
      go_ret2
      exact ⟨by simp [ofNode, ofN, h2], rfl⟩
    · have hc : ¬ (e < 16 ∨ 1099511627776 < e) := by omega
      go_enter Try.func32, Try.ntmps32
      go_wp2
      go_ret2
      exact ⟨by simp only [ofNode, ofN, if_neg hc]; rfl, rfl⟩

/-- Which facts may be, of so many nodes. -/
def okF (nodes : Int) (f : FV) : Bool :=
  decide (1 ≤ nodes) && decide (nodes ≤ 9) && decide (0 ≤ f.node) && decide (f.node < nodes) && decide (0 < ofN f.epoch) && decide (ofNode f.epoch < nodes) &&
    (if f.kind = 1 then (f.node == ofNode f.epoch) && okM f.m else if f.kind = 2 ∨ f.kind = 3 then noneM f.m else false)

theorem errOf_t (e : Int) : errOf true e = 0 := rfl
theorem errOf_f (e : Int) : errOf false e = e := rfl

theorem okF_eq (n : Int) (f : FV) (h : 1 ≤ n ∧ n ≤ 9 ∧ 0 ≤ f.node ∧ f.node < n ∧ 0 < ofN f.epoch ∧ ofNode f.epoch < n) :
    okF n f = if f.kind = 1 then (f.node == ofNode f.epoch) && okM f.m else if f.kind = 2 ∨ f.kind = 3 then noneM f.m else false := by
  unfold okF
  simp [h]
theorem okF_no (n : Int) (f : FV) (h : ¬ (1 ≤ n ∧ n ≤ 9 ∧ 0 ≤ f.node ∧ f.node < n ∧ 0 < ofN f.epoch ∧ ofNode f.epoch < n)) : okF n f = false := by
  unfold okF
  have : (decide (1 ≤ n) && decide (n ≤ 9) && decide (0 ≤ f.node) && decide (f.node < n) && decide (0 < ofN f.epoch) && decide (ofNode f.epoch < n)) = false := by
    simpa [and_assoc, not_and] using h
  rw [this]; rfl

set_option maxHeartbeats 1600000 in
theorem fcheck_no (n : Int) (f : FV) (w : World) (h : ¬ (1 ≤ n ∧ n ≤ 9 ∧ 0 ≤ f.node ∧ f.node < n ∧ 0 < ofN f.epoch ∧ ofNode f.epoch < n)) :
    Calls Try.prog 18 #[.int .i64 n, .agg f.arr] w fun r w' => r = .returned (.int .i64 (errOf (okF n f) 100)) ∧ Below w.heap.size w w' := by
  have H : Hid (errOf (okF n f) 100 = 100) := by unfold Hid; rw [okF_no n f h]; rfl
  generalize hN : ofN f.epoch = p at *
  generalize hO : ofNode f.epoch = q at *
  have hN' := Lib.hid hN
  have hO' := Lib.hid hO
  clear hN hO
  by_cases h1 : 1 ≤ n
  rotate_left
  · clear h
    go_enter Try.func18, Try.ntmps18
    go_wp2_with (go_at_call 32; refine (of_any _ _).mono ?_; rintro e w' ⟨rfl, rfl⟩; rw [hN'.out, hO'.out])
    all_goals (go_ret; exact ⟨by rw [H.out]; rfl, (Below.refl _ _).alloc (Nat.le_refl _) _⟩)
  by_cases h2 : n ≤ 9
  rotate_left
  · clear h
    go_enter Try.func18, Try.ntmps18
    go_wp2_with (go_at_call 32; refine (of_any _ _).mono ?_; rintro e w' ⟨rfl, rfl⟩; rw [hN'.out, hO'.out])
    all_goals (go_ret; exact ⟨by rw [H.out]; rfl, (Below.refl _ _).alloc (Nat.le_refl _) _⟩)
  by_cases h3 : 0 ≤ f.node
  rotate_left
  · clear h
    go_enter Try.func18, Try.ntmps18
    go_wp2_with (go_at_call 32; refine (of_any _ _).mono ?_; rintro e w' ⟨rfl, rfl⟩; rw [hN'.out, hO'.out])
    all_goals (go_ret; exact ⟨by rw [H.out]; rfl, (Below.refl _ _).alloc (Nat.le_refl _) _⟩)
  by_cases h4 : f.node < n
  rotate_left
  · clear h
    go_enter Try.func18, Try.ntmps18
    go_wp2_with (go_at_call 32; refine (of_any _ _).mono ?_; rintro e w' ⟨rfl, rfl⟩; rw [hN'.out, hO'.out])
    all_goals (go_ret; exact ⟨by rw [H.out]; rfl, (Below.refl _ _).alloc (Nat.le_refl _) _⟩)
  by_cases h5 : 0 < p
  rotate_left
  · clear h
    go_enter Try.func18, Try.ntmps18
    go_wp2_with (go_at_call 32; refine (of_any _ _).mono ?_; rintro e w' ⟨rfl, rfl⟩; rw [hN'.out, hO'.out])
    all_goals (go_ret; exact ⟨by rw [H.out]; rfl, (Below.refl _ _).alloc (Nat.le_refl _) _⟩)
  by_cases h6 : q < n
  rotate_left
  · clear h
    go_enter Try.func18, Try.ntmps18
    go_wp2_with (go_at_call 32; refine (of_any _ _).mono ?_; rintro e w' ⟨rfl, rfl⟩; rw [hN'.out, hO'.out])
    all_goals (go_ret; exact ⟨by rw [H.out]; rfl, (Below.refl _ _).alloc (Nat.le_refl _) _⟩)
  exact absurd ⟨h1, h2, h3, h4, h5, h6⟩ h

set_option maxHeartbeats 1600000 in
theorem fcheck_1 (n : Int) (f : FV) (w : World) (h : 1 ≤ n ∧ n ≤ 9 ∧ 0 ≤ f.node ∧ f.node < n ∧ 0 < ofN f.epoch ∧ ofNode f.epoch < n) (hk : f.kind = 1) :
    Calls Try.prog 18 #[.int .i64 n, .agg f.arr] w fun r w' => r = .returned (.int .i64 (errOf (okF n f) 100)) ∧ Below w.heap.size w w' := by
  have hl := run_ld29 f.m _ _ (FV.at_m (f.at_new w 31))
  simp only [Nat.zero_add] at hl
  have H : okF n f = ((f.node == ofNode f.epoch) && okM f.m) := by rw [okF_eq n f h, if_pos hk]
  generalize hN : ofN f.epoch = p at *
  generalize hO : ofNode f.epoch = q at *
  have hN' := Lib.hid hN
  have hO' := Lib.hid hO
  clear hN hO
  obtain ⟨h1, h2, h3, h4, h5, h6⟩ := h
  have hk1 : (f.kind == 1) = true := by simp [hk]
  clear hk
  by_cases hn : f.node = q
  · have hn1 : (f.node == q) = true := by simp [hn]
    clear hn
    rw [hn1] at H
    generalize hm : okM f.m = b at *
    have hm' := Lib.hid hm
    clear hm
    cases b
    · have H' : Hid (errOf (okF n f) 100 = 100) := by unfold Hid; rw [H]; rfl
      clear H
      go_enter Try.func18, Try.ntmps18
      go_wp2_with (first | (go_at_call 32; refine (of_any _ _).mono ?_; rintro e w' ⟨rfl, rfl⟩; rw [hN'.out, hO'.out]) | (go_at_call 33; refine (mcheck_any _ _).mono ?_; rintro e w' ⟨rfl, rfl⟩; rw [hm'.out, errOf_f]))
      go_ret
      exact ⟨by rw [H'.out]; rfl, ((Below.refl _ _).alloc (Nat.le_refl _) _).alloc (by simp) _⟩
    · have H' : Hid (errOf (okF n f) 100 = 0) := by unfold Hid; rw [H]; rfl
      clear H
      go_enter Try.func18, Try.ntmps18
      go_wp2_with (first | (go_at_call 32; refine (of_any _ _).mono ?_; rintro e w' ⟨rfl, rfl⟩; rw [hN'.out, hO'.out]) | (go_at_call 33; refine (mcheck_any _ _).mono ?_; rintro e w' ⟨rfl, rfl⟩; rw [hm'.out, errOf_t]))
      go_ret
      exact ⟨by rw [H'.out]; rfl, ((Below.refl _ _).alloc (Nat.le_refl _) _).alloc (by simp) _⟩
  · have hn1 : (f.node == q) = false := by simp [hn]
    clear hn
    rw [hn1] at H
    have H' : Hid (errOf (okF n f) 100 = 100) := by unfold Hid; rw [H]; rfl
    clear H
    go_enter Try.func18, Try.ntmps18
    go_wp2_with (go_at_call 32; refine (of_any _ _).mono ?_; rintro e w' ⟨rfl, rfl⟩; rw [hN'.out, hO'.out])
    go_ret
    exact ⟨by rw [H'.out]; rfl, (Below.refl _ _).alloc (Nat.le_refl _) _⟩

set_option maxHeartbeats 1600000 in
theorem fcheck_2 (n : Int) (f : FV) (w : World) (h : 1 ≤ n ∧ n ≤ 9 ∧ 0 ≤ f.node ∧ f.node < n ∧ 0 < ofN f.epoch ∧ ofNode f.epoch < n) (hk : f.kind = 2) :
    Calls Try.prog 18 #[.int .i64 n, .agg f.arr] w fun r w' => r = .returned (.int .i64 (errOf (okF n f) 100)) ∧ Below w.heap.size w w' := by
  have hl := run_ld29 f.m _ _ (FV.at_m (f.at_new w 31))
  simp only [Nat.zero_add] at hl
  have H : okF n f = noneM f.m := by rw [okF_eq n f h, if_neg (by omega), if_pos (by omega)]
  generalize hN : ofN f.epoch = p at *
  generalize hO : ofNode f.epoch = q at *
  have hN' := Lib.hid hN
  have hO' := Lib.hid hO
  clear hN hO
  obtain ⟨h1, h2, h3, h4, h5, h6⟩ := h
  have hk1 : (f.kind == 1) = false := by simp [hk]
  have hk2 : (f.kind == 2) = true := by simp [hk]
  clear hk
  generalize hm : noneM f.m = b at *
  have hm' := Lib.hid hm
  clear hm
  cases b
  · have H' : Hid (errOf (okF n f) 100 = 100) := by unfold Hid; rw [H]; rfl
    clear H
    go_enter Try.func18, Try.ntmps18
    go_wp2_with (first | (go_at_call 32; refine (of_any _ _).mono ?_; rintro e w' ⟨rfl, rfl⟩; rw [hN'.out, hO'.out]) | (go_at_call 34; refine (none_any _ _).mono ?_; rintro e w' ⟨rfl, rfl⟩; rw [hm'.out]))
    go_ret
    exact ⟨by rw [H'.out]; rfl, ((Below.refl _ _).alloc (Nat.le_refl _) _).alloc (by simp) _⟩
  · have H' : Hid (errOf (okF n f) 100 = 0) := by unfold Hid; rw [H]; rfl
    clear H
    go_enter Try.func18, Try.ntmps18
    go_wp2_with (first | (go_at_call 32; refine (of_any _ _).mono ?_; rintro e w' ⟨rfl, rfl⟩; rw [hN'.out, hO'.out]) | (go_at_call 34; refine (none_any _ _).mono ?_; rintro e w' ⟨rfl, rfl⟩; rw [hm'.out]))
    go_ret
    exact ⟨by rw [H'.out]; rfl, ((Below.refl _ _).alloc (Nat.le_refl _) _).alloc (by simp) _⟩

set_option maxHeartbeats 1600000 in
theorem fcheck_3 (n : Int) (f : FV) (w : World) (h : 1 ≤ n ∧ n ≤ 9 ∧ 0 ≤ f.node ∧ f.node < n ∧ 0 < ofN f.epoch ∧ ofNode f.epoch < n) (hk : f.kind = 3) :
    Calls Try.prog 18 #[.int .i64 n, .agg f.arr] w fun r w' => r = .returned (.int .i64 (errOf (okF n f) 100)) ∧ Below w.heap.size w w' := by
  have hl := run_ld29 f.m _ _ (FV.at_m (f.at_new w 31))
  simp only [Nat.zero_add] at hl
  have H : okF n f = noneM f.m := by rw [okF_eq n f h, if_neg (by omega), if_pos (by omega)]
  generalize hN : ofN f.epoch = p at *
  generalize hO : ofNode f.epoch = q at *
  have hN' := Lib.hid hN
  have hO' := Lib.hid hO
  clear hN hO
  obtain ⟨h1, h2, h3, h4, h5, h6⟩ := h
  have hk1 : (f.kind == 1) = false := by simp [hk]
  have hk2 : (f.kind == 2) = false := by simp [hk]
  have hk3 : (f.kind == 3) = true := by simp [hk]
  clear hk
  generalize hm : noneM f.m = b at *
  have hm' := Lib.hid hm
  clear hm
  cases b
  · have H' : Hid (errOf (okF n f) 100 = 100) := by unfold Hid; rw [H]; rfl
    clear H
    go_enter Try.func18, Try.ntmps18
    go_wp2_with (first | (go_at_call 32; refine (of_any _ _).mono ?_; rintro e w' ⟨rfl, rfl⟩; rw [hN'.out, hO'.out]) | (go_at_call 34; refine (none_any _ _).mono ?_; rintro e w' ⟨rfl, rfl⟩; rw [hm'.out]))
    go_ret
    exact ⟨by rw [H'.out]; rfl, ((Below.refl _ _).alloc (Nat.le_refl _) _).alloc (by simp) _⟩
  · have H' : Hid (errOf (okF n f) 100 = 0) := by unfold Hid; rw [H]; rfl
    clear H
    go_enter Try.func18, Try.ntmps18
    go_wp2_with (first | (go_at_call 32; refine (of_any _ _).mono ?_; rintro e w' ⟨rfl, rfl⟩; rw [hN'.out, hO'.out]) | (go_at_call 34; refine (none_any _ _).mono ?_; rintro e w' ⟨rfl, rfl⟩; rw [hm'.out]))
    go_ret
    exact ⟨by rw [H'.out]; rfl, ((Below.refl _ _).alloc (Nat.le_refl _) _).alloc (by simp) _⟩

set_option maxHeartbeats 1600000 in
theorem fcheck_0 (n : Int) (f : FV) (w : World) (h : 1 ≤ n ∧ n ≤ 9 ∧ 0 ≤ f.node ∧ f.node < n ∧ 0 < ofN f.epoch ∧ ofNode f.epoch < n) (hk : ¬ (f.kind = 1 ∨ f.kind = 2 ∨ f.kind = 3)) :
    Calls Try.prog 18 #[.int .i64 n, .agg f.arr] w fun r w' => r = .returned (.int .i64 (errOf (okF n f) 100)) ∧ Below w.heap.size w w' := by
  have H' : Hid (errOf (okF n f) 100 = 100) := by unfold Hid; rw [okF_eq n f h, if_neg (by omega), if_neg (by omega)]; rfl
  generalize hN : ofN f.epoch = p at *
  generalize hO : ofNode f.epoch = q at *
  have hN' := Lib.hid hN
  have hO' := Lib.hid hO
  clear hN hO
  obtain ⟨h1, h2, h3, h4, h5, h6⟩ := h
  have hk1 : (f.kind == 1) = false := by simp; omega
  have hk2 : (f.kind == 2) = false := by simp; omega
  have hk3 : (f.kind == 3) = false := by simp; omega
  clear hk
  go_enter Try.func18, Try.ntmps18
  go_wp2_with (go_at_call 32; refine (of_any _ _).mono ?_; rintro e w' ⟨rfl, rfl⟩; rw [hN'.out, hO'.out])
  go_ret
  exact ⟨by rw [H'.out]; rfl, (Below.refl _ _).alloc (Nat.le_refl _) _⟩

theorem fcheck_any (n : Int) (f : FV) (w : World) :
    Calls Try.prog 18 #[.int .i64 n, .agg f.arr] w fun r w' => r = .returned (.int .i64 (errOf (okF n f) 100)) ∧ Below w.heap.size w w' := by
  by_cases h : 1 ≤ n ∧ n ≤ 9 ∧ 0 ≤ f.node ∧ f.node < n ∧ 0 < ofN f.epoch ∧ ofNode f.epoch < n
  · by_cases hk1 : f.kind = 1
    · exact fcheck_1 n f w h hk1
    by_cases hk2 : f.kind = 2
    · exact fcheck_2 n f w h hk2
    by_cases hk3 : f.kind = 3
    · exact fcheck_3 n f w h hk3
    exact fcheck_0 n f w h (by omega)
  · exact fcheck_no n f w h

end Go.Proofs.Ytchfoioahgfjdaa
