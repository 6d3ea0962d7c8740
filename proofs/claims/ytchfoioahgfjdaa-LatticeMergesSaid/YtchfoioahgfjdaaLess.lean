/- fact.Less. -/
import Derived.Test.YtchfoioahgfjdaaFact
namespace Go.Proofs.Ytchfoioahgfjdaa
open Go.RowKit

theorem _root_.Go.RowKit.Below.al {w w' : World} (h : Below w.heap.size w w') (o : Obj) : Below w.heap.size w (w'.alloc o) := h.alloc h.size o

def cmpI (a b : Int) : Int := if a < b then -1 else if b < a then 1 else 0

set_option maxHeartbeats 400000 in
theorem isNaN_any (a : Int) (w : World) : Calls Try.prog 49 #[.int .i64 a] w fun r w' => r = .returned (.bool false) ∧ w = w' := by
  go_enter Try.func49, Try.ntmps49
  go_wp2
  go_ret
  exact ⟨by simp, rfl⟩

set_option maxHeartbeats 400000 in
theorem cmp_any (a b : Int) (w : World) :
    Calls Try.prog 35 #[.int .i64 a, .int .i64 b] w fun r w' => r = .returned (.int .i64 (cmpI a b)) ∧ w = w' := by
  by_cases h1 : a < b
  · have H : Hid (cmpI a b = -1) := by unfold Hid cmpI; rw [if_pos h1]
    go_enter Try.func35, Try.ntmps35
    go_wp2_with (go_at_call 49; refine (isNaN_any _ _).mono ?_; rintro e w' ⟨rfl, rfl⟩)
    go_ret
    exact ⟨by rw [H.out]; rfl, rfl⟩
  by_cases h2 : b < a
  · have H : Hid (cmpI a b = 1) := by unfold Hid cmpI; rw [if_neg h1, if_pos h2]
    go_enter Try.func35, Try.ntmps35
    go_wp2_with (go_at_call 49; refine (isNaN_any _ _).mono ?_; rintro e w' ⟨rfl, rfl⟩)
    go_ret
    exact ⟨by rw [H.out]; rfl, rfl⟩
  · have H : Hid (cmpI a b = 0) := by unfold Hid cmpI; rw [if_neg h1, if_neg h2]
    go_enter Try.func35, Try.ntmps35
    go_wp2_with (go_at_call 49; refine (isNaN_any _ _).mono ?_; rintro e w' ⟨rfl, rfl⟩)
    go_ret
    exact ⟨by rw [H.out]; rfl, rfl⟩

def ltF (a b : FV) : Bool := decide (a.epoch < b.epoch) || (a.epoch == b.epoch && (decide (a.kind < b.kind) || (a.kind == b.kind && decide (a.node < b.node))))

@[go_sem] theorem idx61_0 (x0 x1 x2 x3 x4 x5 : Int) (w : World) : (Instr.index 61 (.agg #[.int .i64 x0, .int .i64 x1, .int .i64 x2, .int .i64 x3, .int .i64 x4, .int .i64 x5]) (.int .i64 0)).run Try.prog w = .ok (.agg #[.int .i64 x0, .int .i64 x1]) w := by kernel_rfl
@[go_sem] theorem idx61_1 (x0 x1 x2 x3 x4 x5 : Int) (w : World) : (Instr.index 61 (.agg #[.int .i64 x0, .int .i64 x1, .int .i64 x2, .int .i64 x3, .int .i64 x4, .int .i64 x5]) (.int .i64 1)).run Try.prog w = .ok (.agg #[.int .i64 x2, .int .i64 x3]) w := by kernel_rfl
@[go_sem] theorem idx61_2 (x0 x1 x2 x3 x4 x5 : Int) (w : World) : (Instr.index 61 (.agg #[.int .i64 x0, .int .i64 x1, .int .i64 x2, .int .i64 x3, .int .i64 x4, .int .i64 x5]) (.int .i64 2)).run Try.prog w = .ok (.agg #[.int .i64 x4, .int .i64 x5]) w := by kernel_rfl

theorem cmpI_lt {a b : Int} (h : a < b) : cmpI a b = -1 := by unfold cmpI; rw [if_pos h]
theorem cmpI_gt {a b : Int} (h : b < a) : cmpI a b = 1 := by unfold cmpI; rw [if_neg (by omega), if_pos h]
theorem cmpI_eq {a b : Int} (h : a = b) : cmpI a b = 0 := by unfold cmpI; rw [if_neg (by omega), if_neg (by omega)]

set_option maxHeartbeats 1600000 in
theorem less_1 (a b : FV) (w : World) (he : Hid (cmpI a.epoch b.epoch = -1)) (H : Hid (ltF a b = true)) :
    Calls Try.prog 19 #[.agg a.arr, .agg b.arr] w fun r w' => r = .returned (.bool (ltF a b)) ∧ Below w.heap.size w w' := by
  go_enter Try.func19, Try.ntmps19
  go_wp2_with fail
  go_step3
  go_wp2_with fail
  go_step3
  go_wp2_with fail
  refine wp_loop_rounds 1 ?_; rw [rounds_succ]
  go_wp2_with fail
  refine (cmp_any _ _ _).mono ?_; rintro e w' ⟨rfl, rfl⟩; rw [he.out]
  go_wp2_with fail
  rw [Exit.noGoto_ret]
  go_ret
  exact ⟨by rw [H.out]; rfl, Below.refl _ _ |>.al _ |>.al _ |>.al _⟩

set_option maxHeartbeats 1600000 in
theorem less_2 (a b : FV) (w : World) (he : Hid (cmpI a.epoch b.epoch = 1)) (H : Hid (ltF a b = false)) :
    Calls Try.prog 19 #[.agg a.arr, .agg b.arr] w fun r w' => r = .returned (.bool (ltF a b)) ∧ Below w.heap.size w w' := by
  go_enter Try.func19, Try.ntmps19
  go_wp2_with fail
  go_step3
  go_wp2_with fail
  go_step3
  go_wp2_with fail
  refine wp_loop_rounds 1 ?_; rw [rounds_succ]
  go_wp2_with fail
  refine (cmp_any _ _ _).mono ?_; rintro e w' ⟨rfl, rfl⟩; rw [he.out]
  go_wp2_with fail
  rw [Exit.noGoto_ret]
  go_ret
  exact ⟨by rw [H.out]; rfl, Below.refl _ _ |>.al _ |>.al _ |>.al _⟩

set_option maxHeartbeats 1600000 in
theorem less_3 (a b : FV) (w : World) (he : Hid (cmpI a.epoch b.epoch = 0)) (hk : Hid (cmpI a.kind b.kind = -1)) (H : Hid (ltF a b = true)) :
    Calls Try.prog 19 #[.agg a.arr, .agg b.arr] w fun r w' => r = .returned (.bool (ltF a b)) ∧ Below w.heap.size w w' := by
  go_enter Try.func19, Try.ntmps19
  go_wp2_with fail
  go_step3
  go_wp2_with fail
  go_step3
  go_wp2_with fail
  refine wp_loop_rounds 2 ?_; rw [rounds_succ]
  go_wp2_with fail
  refine (cmp_any _ _ _).mono ?_; rintro e w' ⟨rfl, rfl⟩; rw [he.out]
  go_wp2_with fail
  rw [rounds_succ]
  go_wp2_with fail
  refine (cmp_any _ _ _).mono ?_; rintro e w' ⟨rfl, rfl⟩; rw [hk.out]
  go_wp2_with fail
  rw [Exit.noGoto_ret]
  go_ret
  exact ⟨by rw [H.out]; rfl, Below.refl _ _ |>.al _ |>.al _ |>.al _ |>.al _⟩

set_option maxHeartbeats 1600000 in
theorem less_4 (a b : FV) (w : World) (he : Hid (cmpI a.epoch b.epoch = 0)) (hk : Hid (cmpI a.kind b.kind = 1)) (H : Hid (ltF a b = false)) :
    Calls Try.prog 19 #[.agg a.arr, .agg b.arr] w fun r w' => r = .returned (.bool (ltF a b)) ∧ Below w.heap.size w w' := by
  go_enter Try.func19, Try.ntmps19
  go_wp2_with fail
  go_step3
  go_wp2_with fail
  go_step3
  go_wp2_with fail
  refine wp_loop_rounds 2 ?_; rw [rounds_succ]
  go_wp2_with fail
  refine (cmp_any _ _ _).mono ?_; rintro e w' ⟨rfl, rfl⟩; rw [he.out]
  go_wp2_with fail
  rw [rounds_succ]
  go_wp2_with fail
  refine (cmp_any _ _ _).mono ?_; rintro e w' ⟨rfl, rfl⟩; rw [hk.out]
  go_wp2_with fail
  rw [Exit.noGoto_ret]
  go_ret
  exact ⟨by rw [H.out]; rfl, Below.refl _ _ |>.al _ |>.al _ |>.al _ |>.al _⟩

set_option maxHeartbeats 1600000 in
theorem less_5 (a b : FV) (w : World) (he : Hid (cmpI a.epoch b.epoch = 0)) (hk : Hid (cmpI a.kind b.kind = 0)) (hn : Hid (cmpI a.node b.node = -1)) (H : Hid (ltF a b = true)) :
    Calls Try.prog 19 #[.agg a.arr, .agg b.arr] w fun r w' => r = .returned (.bool (ltF a b)) ∧ Below w.heap.size w w' := by
  go_enter Try.func19, Try.ntmps19
  go_wp2_with fail
  go_step3
  go_wp2_with fail
  go_step3
  go_wp2_with fail
  refine wp_loop_rounds 3 ?_; rw [rounds_succ]
  go_wp2_with fail
  refine (cmp_any _ _ _).mono ?_; rintro e w' ⟨rfl, rfl⟩; rw [he.out]
  go_wp2_with fail
  rw [rounds_succ]
  go_wp2_with fail
  refine (cmp_any _ _ _).mono ?_; rintro e w' ⟨rfl, rfl⟩; rw [hk.out]
  go_wp2_with fail
  rw [rounds_succ]
  go_wp2_with fail
  refine (cmp_any _ _ _).mono ?_; rintro e w' ⟨rfl, rfl⟩; rw [hn.out]
  go_wp2_with fail
  rw [Exit.noGoto_ret]
  go_ret
  exact ⟨by rw [H.out]; rfl, Below.refl _ _ |>.al _ |>.al _ |>.al _ |>.al _ |>.al _⟩

set_option maxHeartbeats 1600000 in
theorem less_6 (a b : FV) (w : World) (he : Hid (cmpI a.epoch b.epoch = 0)) (hk : Hid (cmpI a.kind b.kind = 0)) (hn : Hid (cmpI a.node b.node = 1)) (H : Hid (ltF a b = false)) :
    Calls Try.prog 19 #[.agg a.arr, .agg b.arr] w fun r w' => r = .returned (.bool (ltF a b)) ∧ Below w.heap.size w w' := by
  go_enter Try.func19, Try.ntmps19
  go_wp2_with fail
  go_step3
  go_wp2_with fail
  go_step3
  go_wp2_with fail
  refine wp_loop_rounds 3 ?_; rw [rounds_succ]
  go_wp2_with fail
  refine (cmp_any _ _ _).mono ?_; rintro e w' ⟨rfl, rfl⟩; rw [he.out]
  go_wp2_with fail
  rw [rounds_succ]
  go_wp2_with fail
  refine (cmp_any _ _ _).mono ?_; rintro e w' ⟨rfl, rfl⟩; rw [hk.out]
  go_wp2_with fail
  rw [rounds_succ]
  go_wp2_with fail
  refine (cmp_any _ _ _).mono ?_; rintro e w' ⟨rfl, rfl⟩; rw [hn.out]
  go_wp2_with fail
  rw [Exit.noGoto_ret]
  go_ret
  exact ⟨by rw [H.out]; rfl, Below.refl _ _ |>.al _ |>.al _ |>.al _ |>.al _ |>.al _⟩

set_option maxHeartbeats 1600000 in
theorem less_7 (a b : FV) (w : World) (he : Hid (cmpI a.epoch b.epoch = 0)) (hk : Hid (cmpI a.kind b.kind = 0)) (hn : Hid (cmpI a.node b.node = 0)) (H : Hid (ltF a b = false)) :
    Calls Try.prog 19 #[.agg a.arr, .agg b.arr] w fun r w' => r = .returned (.bool (ltF a b)) ∧ Below w.heap.size w w' := by
  go_enter Try.func19, Try.ntmps19
  go_wp2_with fail
  go_step3
  go_wp2_with fail
  go_step3
  go_wp2_with fail
  refine wp_loop_rounds 4 ?_; rw [rounds_succ]
  go_wp2_with fail
  refine (cmp_any _ _ _).mono ?_; rintro e w' ⟨rfl, rfl⟩; rw [he.out]
  go_wp2_with fail
  rw [rounds_succ]
  go_wp2_with fail
  refine (cmp_any _ _ _).mono ?_; rintro e w' ⟨rfl, rfl⟩; rw [hk.out]
  go_wp2_with fail
  rw [rounds_succ]
  go_wp2_with fail
  refine (cmp_any _ _ _).mono ?_; rintro e w' ⟨rfl, rfl⟩; rw [hn.out]
  go_wp2_with fail
  rw [rounds_succ]
  go_wp2_with fail
  rw [Exit.noGoto_ret]
  go_ret
  exact ⟨by rw [H.out]; rfl, Below.refl _ _ |>.al _ |>.al _ |>.al _ |>.al _ |>.al _⟩

theorem less_any (a b : FV) (w : World) :
    Calls Try.prog 19 #[.agg a.arr, .agg b.arr] w fun r w' => r = .returned (.bool (ltF a b)) ∧ Below w.heap.size w w' := by
  rcases Int.lt_trichotomy a.epoch b.epoch with h1 | h1 | h1
  · exact less_1 a b w (cmpI_lt h1) (by unfold Hid ltF; simp [h1])
  · have g1 : ¬ a.epoch < b.epoch := by omega
    rcases Int.lt_trichotomy a.kind b.kind with h2 | h2 | h2
    · exact less_3 a b w (cmpI_eq h1) (cmpI_lt h2) (by unfold Hid ltF; simp [h1, h2])
    · have g2 : ¬ a.kind < b.kind := by omega
      rcases Int.lt_trichotomy a.node b.node with h3 | h3 | h3
      · exact less_5 a b w (cmpI_eq h1) (cmpI_eq h2) (cmpI_lt h3) (by unfold Hid ltF; simp [h1, h2, h3])
      · have g3 : ¬ a.node < b.node := by omega
        exact less_7 a b w (cmpI_eq h1) (cmpI_eq h2) (cmpI_eq h3) (by unfold Hid ltF; simp [h1, h2, h3])
      · have g3 : ¬ a.node < b.node := by omega
        exact less_6 a b w (cmpI_eq h1) (cmpI_eq h2) (cmpI_gt h3) (by unfold Hid ltF; simp [h1, h2, g3])
    · have g2 : ¬ a.kind < b.kind := by omega
      have g3 : ¬ a.kind = b.kind := by omega
      exact less_4 a b w (cmpI_eq h1) (cmpI_gt h2) (by unfold Hid ltF; simp [h1, g2, g3])
  · have g1 : ¬ a.epoch < b.epoch := by omega
    have g2 : ¬ a.epoch = b.epoch := by omega
    exact less_2 a b w (cmpI_gt h1) (by unfold Hid ltF; simp [g1, g2])

end Go.Proofs.Ytchfoioahgfjdaa
