/- The references' functions of layers 5, 10 and 11: contracts. -/
import Derived.Test.YtchfoioahgfjdaaRisw
import Derived.Test.YtchfoioahgfjdaaOwnw
namespace Go.Proofs.Ytchfoioahgfjdaa
open Go.RowKit

set_option maxHeartbeats 400000 in
theorem of51_any (e : Int) (w : World) :
    Calls Try.prog 51 #[.int .i64 e] w fun r w' => r = .returned (.tuple #[.int .i64 (ofNode e), .int .i64 (ofN e)]) ∧ w = w' := by
  by_cases h1 : e < 16
  · go_enter Try.func51, Try.ntmps51
    go_wp2
    go_ret2
    exact ⟨by simp [ofNode, ofN, h1], rfl⟩
  · by_cases h2 : 1099511627776 < e
    · go_enter Try.func51, Try.ntmps51
      go_wp2
      go_ret2
      exact ⟨by simp [ofNode, ofN, h2], rfl⟩
    · have hc : ¬ (e < 16 ∨ 1099511627776 < e) := by omega
      go_enter Try.func51, Try.ntmps51
      go_wp2
      go_ret2
      exact ⟨by simp only [ofNode, ofN, if_neg hc]; rfl, rfl⟩

theorem chunks_up {a b : Int} {k : Nat} (hb : 0 < b) (h1 : a ≤ (k : Int) * b) (h2 : k = 0 ∨ ((k : Int) - 1) * b < a) (h3 : 1 ≤ a) : (a + b - 1) / b = (k : Int) := by
  have hk : k ≠ 0 := by
    intro h
    subst h
    simp at h1
    omega
  have h4 : ((k : Int) - 1) * b < a := h2.resolve_left hk
  have h5 : ((k : Int) - 1) * b = (k : Int) * b - b := by rw [Int.sub_mul, Int.one_mul]
  refine Int.le_antisymm ?_ ?_
  · have : (a + b - 1) / b < (k : Int) + 1 := Int.ediv_lt_of_lt_mul hb (by rw [Int.add_mul, Int.one_mul]; omega)
    omega
  · exact Int.le_ediv_of_mul_le hb (by omega)

set_option maxHeartbeats 1600000 in
theorem chunks55_any (a b : Int) (w : World) :
    Calls Try.prog 55 #[.int .i64 a, .int .i64 b] w fun r w' => r = .returned (.int .i64 (chunksN a b)) ∧ w = w' := by
  by_cases h1 : a < 1
  · have H : Hid (chunksN a b = 0) := by unfold Hid chunksN; rw [if_pos (by omega)]
    go_enter Try.func55, Try.ntmps55
    go_wp2
    go_ret
    exact ⟨by rw [H.out]; rfl, rfl⟩
  by_cases h2 : 65536 < a
  · have H : Hid (chunksN a b = 0) := by unfold Hid chunksN; rw [if_pos (by omega)]
    go_enter Try.func55, Try.ntmps55
    go_wp2
    go_ret
    exact ⟨by rw [H.out]; rfl, rfl⟩
  by_cases h3 : b < 1
  · have H : Hid (chunksN a b = 0) := by unfold Hid chunksN; rw [if_pos (by omega)]
    go_enter Try.func55, Try.ntmps55
    go_wp2
    go_ret
    exact ⟨by rw [H.out]; rfl, rfl⟩
  by_cases h4 : 4096 < b
  · have H : Hid (chunksN a b = 0) := by unfold Hid chunksN; rw [if_pos (by omega)]
    go_enter Try.func55, Try.ntmps55
    go_wp2
    go_ret
    exact ⟨by rw [H.out]; rfl, rfl⟩
  have HC : Hid (chunksN a b = if 64 < (a + b - 1) / b then 0 else (a + b - 1) / b) := by unfold Hid chunksN; rw [if_neg (by omega)]
  go_enter Try.func55, Try.ntmps55
  go_wp2
  go_loopw [5] (fun i wr => wr = w ∧ ∃ k : Nat, k ≤ 65536 ∧ i = .int .i64 k ∧ Hid (k = 0 ∨ ((k : Int) - 1) * b < a)) (fun i _ => 65536 - (intOf i).toNat)
  case atStart => exact ⟨rfl, 0, Nat.zero_le _, rfl, .inl rfl⟩
  case round =>
    obtain ⟨rfl, k, hk, rfl, hpre⟩ := hrel
    have hp0 : 0 ≤ (k : Int) * b := Int.mul_nonneg (by omega) (by omega)
    have hp1 : (k : Int) * b ≤ 70000 := by
      rcases hpre.out with h | h
      · subst h; simp
      · have h5 : ((k : Int) - 1) * b = (k : Int) * b - b := by rw [Int.sub_mul, Int.one_mul]
        omega
    by_cases hlt : (k : Int) * b < a
    · have hk2 : k < 65536 := by
        have : (k : Int) * 1 ≤ (k : Int) * b := Int.mul_le_mul_of_nonneg_left (by omega) (by omega)
        omega
      have HL := Lib.hid hlt
      go_wp2
      go_roundw
      case rel => exact ⟨trivial, k + 1, by omega, by simp, .inr (by rw [show ((k + 1 : Nat) : Int) - 1 = (k : Int) by omega]; exact HL.out)⟩
      case measure => simp [intOf]; omega
    · have hd := chunks_up (k := k) (by omega) (by omega) hpre.out (by omega)
      rw [hd] at HC
      clear hd
      by_cases h64 : 64 < k
      · have H : Hid (chunksN a b = 0) := by unfold Hid; rw [HC.out, if_pos (by omega)]
        go_wp2
        go_ret
        exact ⟨by rw [H.out]; rfl, rfl⟩
      · have H : Hid (chunksN a b = (k : Int)) := by unfold Hid; rw [HC.out, if_neg (by omega)]
        go_wp2
        go_ret
        exact ⟨by rw [H.out]; rfl, rfl⟩

set_option maxHeartbeats 400000 in
theorem mcheck52_any (m : MV) (w : World) :
    Calls Try.prog 52 #[.agg m.arr] w fun r w' => r = .returned (.int .i64 (errOf (okM m) 50)) ∧ Below w.heap.size w w' := by
  have hk := chunksN_bd m.size m.chunk
  have H : okM m = (!(chunksN m.size m.chunk == 0) && ((m.cl : Int) == chunksN m.size m.chunk)) := rfl
  generalize hc : chunksN m.size m.chunk = c at *
  have hc' := Lib.hid hc
  clear hc
  by_cases h1 : c = 0
  · have H' : Hid (errOf (okM m) 50 = 50) := by unfold Hid; rw [H]; simp [h1, errOf]
    clear H
    go_enter Try.func52, Try.ntmps52
    go_wp2_with (go_at_call 55; refine (chunks55_any _ _ _).mono ?_; rintro e w' ⟨rfl, rfl⟩; rw [hc'.out])
    go_ret
    exact ⟨by rw [H'.out]; rfl, (Below.refl _ _).al _⟩
  · have hB : (c == 0) = false := by simp [h1]
    by_cases h2 : (m.cl : Int) = c
    · have hB2 : ((m.cl : Int) != c) = false := by simp [h2]
      have H' : Hid (errOf (okM m) 50 = 0) := by unfold Hid; rw [H]; simp [h1, h2, errOf]
      clear H
      go_enter Try.func52, Try.ntmps52
      go_wp2_with (go_at_call 55; refine (chunks55_any _ _ _).mono ?_; rintro e w' ⟨rfl, rfl⟩; rw [hc'.out])
      go_ret
      exact ⟨by rw [H'.out]; rfl, (Below.refl _ _).al _⟩
    · have hB2 : ((m.cl : Int) != c) = true := by simp [h2]
      have H' : Hid (errOf (okM m) 50 = 50) := by unfold Hid; rw [H]; simp [h2, errOf]
      clear H
      go_enter Try.func52, Try.ntmps52
      go_wp2_with (go_at_call 55; refine (chunks55_any _ _ _).mono ?_; rintro e w' ⟨rfl, rfl⟩; rw [hc'.out])
      go_ret
      exact ⟨by rw [H'.out]; rfl, (Below.refl _ _).al _⟩

theorem eqM_none {m : MV} {xs : List Int} (h : xs.length = 32 * m.cl) : eqM m xs MV0 [] = noneM m := by
  simp only [eqM, noneM, MV0]
  cases hc : m.cl == 0 with
  | false => simp
  | true =>
    have : xs = [] := List.eq_nil_of_length_eq_zero (by simp at hc; omega)
    rw [this]
    simp

set_option maxHeartbeats 400000 in
theorem none53_any (m : MV) (xs : List Int) (w : World) (h : MRd w m xs) :
    Calls Try.prog 53 #[.agg m.arr] w fun r w' => r = .returned (.bool (noneM m)) ∧ Below w.heap.size w w' := by
  have hb : Below w.heap.size w (w.alloc (.cells m.arr 29)) := (Below.refl _ _).al _
  have hl := run_ld29 m _ _ (MBlk.new w m).at
  have HN := Lib.hid (eqM_none h.1)
  go_enter Try.func53, Try.ntmps53
  go_wp2_with fail
  refine (same05_any m xs MV0 [] _ (h.below hb (Nat.le_refl _)) (MRd0 _)).mono ?_
  rintro e w1 ⟨rfl, hb1⟩
  rw [HN.out]
  have hb := hb.tr hb1
  go_wp2
  go_ret
  exact ⟨rfl, hb⟩

theorem okF_alt (n : Int) (f : FV) : okF n f = (decide (1 ≤ n ∧ n ≤ 9 ∧ 0 ≤ f.node ∧ f.node < n ∧ 16 ≤ f.epoch ∧ f.epoch ≤ 1099511627776) && (decide (ofNode f.epoch < n) &&
    (if f.kind = 1 then (f.node == ofNode f.epoch) && okM f.m else if f.kind = 2 ∨ f.kind = 3 then noneM f.m else false))) := by
  have h : (0 < ofN f.epoch) ↔ (16 ≤ f.epoch ∧ f.epoch ≤ 1099511627776) := by
    unfold ofN
    split <;> omega
  unfold okF
  simp only [Bool.decide_and, h, Bool.and_assoc]

set_option maxHeartbeats 3200000 in
theorem fcheck42_any (n : Int) (f : FV) (xs : List Int) (w : World) (hm : MRd w f.m xs) :
    Calls Try.prog 42 #[.int .i64 n, .agg f.arr] w fun r w' => r = .returned (.int .i64 (errOf (okF n f) 100)) ∧ Below w.heap.size w w' := by
  have hb : Below w.heap.size w (w.alloc (.cells f.arr 31)) := (Below.refl _ _).al _
  have hlm := run_ld29 f.m _ _ (FV.at_m (FBlk.new w f).at)
  simp only [Nat.zero_add] at hlm
  have hm1 := hm.below hb (Nat.le_refl _)
  have HA := Lib.hid (okF_alt n f)
  by_cases h1 : 1 ≤ n
  rotate_left
  · have H : Hid (errOf (okF n f) 100 = 100) := by unfold Hid; rw [HA.out, decide_eq_false (by omega)]; rfl
    go_enter Try.func42, Try.ntmps42
    go_wp2
    go_ret
    exact ⟨by rw [H.out]; rfl, hb⟩
  by_cases h2 : n ≤ 9
  rotate_left
  · have H : Hid (errOf (okF n f) 100 = 100) := by unfold Hid; rw [HA.out, decide_eq_false (by omega)]; rfl
    go_enter Try.func42, Try.ntmps42
    go_wp2
    go_ret
    exact ⟨by rw [H.out]; rfl, hb⟩
  by_cases h3 : 0 ≤ f.node
  rotate_left
  · have H : Hid (errOf (okF n f) 100 = 100) := by unfold Hid; rw [HA.out, decide_eq_false (by omega)]; rfl
    go_enter Try.func42, Try.ntmps42
    go_wp2
    go_ret
    exact ⟨by rw [H.out]; rfl, hb⟩
  by_cases h4 : f.node < n
  rotate_left
  · have H : Hid (errOf (okF n f) 100 = 100) := by unfold Hid; rw [HA.out, decide_eq_false (by omega)]; rfl
    go_enter Try.func42, Try.ntmps42
    go_wp2
    go_ret
    exact ⟨by rw [H.out]; rfl, hb⟩
  by_cases h5 : 16 ≤ f.epoch
  rotate_left
  · have H : Hid (errOf (okF n f) 100 = 100) := by unfold Hid; rw [HA.out, decide_eq_false (by omega)]; rfl
    go_enter Try.func42, Try.ntmps42
    go_wp2
    go_ret
    exact ⟨by rw [H.out]; rfl, hb⟩
  by_cases h6 : f.epoch ≤ 1099511627776
  rotate_left
  · have H : Hid (errOf (okF n f) 100 = 100) := by unfold Hid; rw [HA.out, decide_eq_false (by omega)]; rfl
    go_enter Try.func42, Try.ntmps42
    go_wp2
    go_ret
    exact ⟨by rw [H.out]; rfl, hb⟩
  have HB : Hid (okF n f = (decide (ofNode f.epoch < n) && (if f.kind = 1 then (f.node == ofNode f.epoch) && okM f.m else if f.kind = 2 ∨ f.kind = 3 then noneM f.m else false))) := by
    unfold Hid; rw [HA.out, decide_eq_true ⟨h1, h2, h3, h4, h5, h6⟩]; rfl
  clear HA
  generalize hO : ofNode f.epoch = q at *
  have hO' := Lib.hid hO
  clear hO
  by_cases hk1 : f.kind = 1
  · have HC : Hid (okF n f = (decide (q < n) && ((f.node == q) && okM f.m))) := by unfold Hid; rw [HB.out, if_pos hk1]
    have hB1 : (f.kind == 1) = true := by simp [hk1]
    clear HB hk1
    by_cases h7 : q < n
    · have hB7 : decide (q < n) = true := decide_eq_true h7
      by_cases h8 : f.node = q
      · have hB8 : (q == f.node) = true := by simp [h8]
        have HD : Hid (okF n f = okM f.m) := by unfold Hid; rw [HC.out, decide_eq_true h7, h8]; simp
        clear HC h8
        go_enter Try.func42, Try.ntmps42
        go_wp2_with (go_at_call 51; refine (of51_any _ _).mono ?_; rintro e w' ⟨rfl, rfl⟩; rw [hO'.out])
        refine (mcheck52_any f.m _).mono ?_
        rintro e w1 ⟨rfl, hb1⟩
        have hb := hb.tr hb1
        cases hok : okM f.m with
        | true =>
          rw [errOf_t]
          have H : Hid (errOf (okF n f) 100 = 0) := by unfold Hid; rw [HD.out, hok]; rfl
          clear hok
          go_wp2
          go_ret
          exact ⟨by rw [H.out]; rfl, hb⟩
        | false =>
          rw [errOf_f]
          have H : Hid (errOf (okF n f) 100 = 100) := by unfold Hid; rw [HD.out, hok]; rfl
          clear hok
          go_wp2
          go_ret
          exact ⟨by rw [H.out]; rfl, hb⟩
      · have hB8 : (q == f.node) = false := by simp; omega
        have H : Hid (errOf (okF n f) 100 = 100) := by unfold Hid; rw [HC.out, beq_f h8]; simp [errOf]
        clear HC h8
        go_enter Try.func42, Try.ntmps42
        go_wp2_with (go_at_call 51; refine (of51_any _ _).mono ?_; rintro e w' ⟨rfl, rfl⟩; rw [hO'.out])
        go_ret
        exact ⟨by rw [H.out]; rfl, hb⟩
    · have hB7 : decide (q < n) = false := decide_eq_false h7
      have H : Hid (errOf (okF n f) 100 = 100) := by unfold Hid; rw [HC.out, decide_eq_false h7]; rfl
      go_enter Try.func42, Try.ntmps42
      go_wp2_with (go_at_call 51; refine (of51_any _ _).mono ?_; rintro e w' ⟨rfl, rfl⟩; rw [hO'.out])
      go_ret
      exact ⟨by rw [H.out]; rfl, hb⟩
  by_cases hk2 : f.kind = 2 ∨ f.kind = 3
  · have HC : Hid (okF n f = (decide (q < n) && noneM f.m)) := by unfold Hid; rw [HB.out, if_neg hk1, if_pos hk2]
    have hB1 : (f.kind == 1) = false := by simp [hk1]
    clear HB hk1
    rcases hk2 with hk | hk
    · have hB2 : (f.kind == 2) = true := by simp [hk]
      clear hk
      go_enter Try.func42, Try.ntmps42
      go_wp2_with (go_at_call 51; refine (of51_any _ _).mono ?_; rintro e w' ⟨rfl, rfl⟩; rw [hO'.out])
      refine (none53_any f.m xs _ hm1).mono ?_
      rintro e w1 ⟨rfl, hb1⟩
      have hb := hb.tr hb1
      generalize noneM f.m = nm at *
      cases hq : decide (q < n) with
      | true =>
        cases nm with
        | true =>
          have H : Hid (errOf (okF n f) 100 = 0) := by unfold Hid; rw [HC.out, hq]; rfl
          have HQ := Lib.hid hq
          clear hq
          go_wp2
          go_ret
          exact ⟨by rw [H.out]; rfl, hb⟩
        | false =>
          have H : Hid (errOf (okF n f) 100 = 100) := by unfold Hid; rw [HC.out, hq]; rfl
          have HQ := Lib.hid hq
          clear hq
          go_wp2
          go_ret
          exact ⟨by rw [H.out]; rfl, hb⟩
      | false =>
        have H : Hid (errOf (okF n f) 100 = 100) := by unfold Hid; rw [HC.out, hq]; rfl
        have HQ := Lib.hid hq
        clear hq
        go_wp2
        go_ret
        exact ⟨by rw [H.out]; rfl, hb⟩
    · have hB2 : (f.kind == 2) = false := by simp [hk]
      have hB3 : (f.kind == 3) = true := by simp [hk]
      clear hk
      go_enter Try.func42, Try.ntmps42
      go_wp2_with (go_at_call 51; refine (of51_any _ _).mono ?_; rintro e w' ⟨rfl, rfl⟩; rw [hO'.out])
      refine (none53_any f.m xs _ hm1).mono ?_
      rintro e w1 ⟨rfl, hb1⟩
      have hb := hb.tr hb1
      generalize noneM f.m = nm at *
      cases hq : decide (q < n) with
      | true =>
        cases nm with
        | true =>
          have H : Hid (errOf (okF n f) 100 = 0) := by unfold Hid; rw [HC.out, hq]; rfl
          have HQ := Lib.hid hq
          clear hq
          go_wp2
          go_ret
          exact ⟨by rw [H.out]; rfl, hb⟩
        | false =>
          have H : Hid (errOf (okF n f) 100 = 100) := by unfold Hid; rw [HC.out, hq]; rfl
          have HQ := Lib.hid hq
          clear hq
          go_wp2
          go_ret
          exact ⟨by rw [H.out]; rfl, hb⟩
      | false =>
        have H : Hid (errOf (okF n f) 100 = 100) := by unfold Hid; rw [HC.out, hq]; rfl
        have HQ := Lib.hid hq
        clear hq
        go_wp2
        go_ret
        exact ⟨by rw [H.out]; rfl, hb⟩
  · have H : Hid (errOf (okF n f) 100 = 100) := by unfold Hid; rw [HB.out, if_neg hk1, if_neg hk2]; simp [errOf]
    have hB1 : (f.kind == 1) = false := by simp [hk1]
    have hB2 : (f.kind == 2) = false := by simp; omega
    have hB3 : (f.kind == 3) = false := by simp; omega
    clear HB hk1 hk2
    go_enter Try.func42, Try.ntmps42
    go_wp2_with (go_at_call 51; refine (of51_any _ _).mono ?_; rintro e w' ⟨rfl, rfl⟩; rw [hO'.out])
    go_ret
    exact ⟨by rw [H.out]; rfl, hb⟩

end Go.Proofs.Ytchfoioahgfjdaa
