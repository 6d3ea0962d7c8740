/- LatticeWho: the walk. -/
import Derived.Test.YtchfoioahgfjdaaWhol
import Derived.Test.YtchfoioahgfjdaaCls
namespace Go.Proofs.Ytchfoioahgfjdaa
open Go.RowKit

theorem ISl.cell {B : Nat} {w : World} {va : Option Addr} {n cap : Nat} {l : List Int} (h : ISl B w (.slice va n cap) l) {i : Nat} {x : Int} (hi : l[i]? = some x) : ∃ g, va = some ⟨g, 0, none⟩ ∧ w.cell? ⟨g, i, none⟩ = some (.int .i64 x) := by
  have hcs := fun g hg => World.ownsRow.cells (g := g) h hg
  obtain ⟨_, h2⟩ := h
  rcases h2 with ⟨_, h0⟩ | ⟨g, cap', cur, e, _⟩
  · rw [List.eq_nil_of_length_eq_zero h0] at hi; simp at hi
  · cases e
    refine ⟨g, rfl, ?_⟩
    have := hcs g rfl i _ (show (iv l)[i]? = some (.int .i64 x) by simp [iv, hi])
    rw [add_mk] at this
    simpa using this

set_option maxHeartbeats 6400000 in
theorem who_law (n : Int) (va : Value) (kd ep mj : Int) (A : List AF) (w : World) (hA : HL w va A) :
    Calls Try.prog 8 #[.int .i64 n, va, .int .i64 kd, .int .i64 ep, .int .i64 mj] w fun r w' => r = .returned (.bool true) ∧ Below w.heap.size w w' := by
  have lX := Nat.le_trans (grownX_le n (A.take 40)) (List.length_take_le _ _)
  have sX := grownX_sorted n (A.take 40)
  have oX := fun x hx => (grownX_ok n (A.take 40) x hx).2.2
  generalize hgX : grownX n (A.take 40) = X at *
  have eX := Lib.hid hgX
  have hle := who_len X kd ep
  have SI := Lib.hid (who_sorted sX kd ep)
  have NI := Lib.hid (cntTo_nine kd ep sX oX)
  have MI := Lib.hid (who_mem (heads X) kd ep)
  have LX := Lib.hid lX
  clear hgX sX oX
  go_enter Try.func8, Try.ntmps8
  go_wp2_with fail
  refine (awake_any _).mono ?_
  rintro e w1 ⟨rfl, hb⟩
  have hA := hA.below hb
  go_wp2_with fail
  refine (grown_hl n 40 w1 hA (by decide)).mono ?_
  rintro e w2 ⟨vx, rfl, hX, hb2⟩
  rw [eX.out] at hX
  have hb := hb.tr hb2
  go_wp2_with fail
  refine (who_hl kd ep w2 hX (by have := LX.out; omega)).mono ?_
  rintro e w3 ⟨vi, rfl, hI, hb3⟩
  have hX := hX.below hb3
  have hb := hb.tr hb3
  generalize whoF (heads X) kd ep = I at *
  obtain ⟨vj, capj, rfl⟩ := hI.shape
  have hI3 := hI.mono (B' := 0) (Nat.zero_le _)
  have hlI : I.length ≤ 40 := Nat.le_trans hle lX
  clear hI hA hb2 hb3 lX hle
  go_wp2
  go_loopw [14] (fun i wr => ∃ k : Nat, k ≤ I.length ∧ i = .int .i64 k ∧ Below w3.heap.size w3 wr) (fun i _ => I.length - (intOf i).toNat)
  case atStart => exact ⟨0, Nat.zero_le _, rfl, Below.refl _ _⟩
  case round =>
    obtain ⟨k, hk, rfl, hbel⟩ := hrel
    by_cases hlt : k < I.length
    · obtain ⟨x, hx⟩ : ∃ x, I[k]? = some x := ⟨_, List.getElem?_eq_getElem hlt⟩
      obtain ⟨g, rfl, hc0⟩ := (hI3.below hbel).cell hx
      have hc : ∀ y : Aft wr, y.w.cell? ⟨g, k, none⟩ = some (.int .i64 x) := fun y => (y.b.cell (block_lt_of_cell hc0)).trans hc0
      have hhas : Hid (hasF (heads X) kd ep x = true) := (MI.out x).1 (List.mem_of_getElem? hx)
      have i1 : (k : Int) < (I.length : Int) := by omega
      have hcall : ∀ y : Aft wr, Calls Try.prog 20 #[vx, .int .i64 kd, .int .i64 ep, .int .i64 x] y.w fun e w' => e = .returned (.bool true) ∧ ∃ z : Aft wr, w' = z.w := fun y =>
        calls_aft y (by have := has_hl kd ep x y.w ((hX.below hbel).below y.b) (by have := LX.out; omega); rwa [hhas.out] at this)
      have HX := Lib.hid hx
      clear hx hc0
      by_cases h0 : k = 0
      · have g0 : decide ((0 : Int) < (k : Int)) = false := by simp; omega
        have hc00 : ∀ y : Aft wr, y.w.cell? ⟨g, 0, none⟩ = some (.int .i64 x) := by rw [h0] at hc; exact hc
        go_wp2
        refine wp_region_aft (by kernel_rfl) (by kernel_rfl) ?_
        repeat (go_big_quiet_step (exact hcall _))
        refine wpQuiet_nil ?_
        rintro _ ⟨⟨w4, hb4⟩, rfl⟩
        have hbel2 := hbel.tr hb4
        go_wp2
        go_roundw
        case rel => exact ⟨k + 1, by omega, by simp [h0], hbel2⟩
        case measure => simp [intOf]; omega
      · obtain ⟨j, rfl⟩ : ∃ j, k = j + 1 := ⟨k - 1, by omega⟩
        obtain ⟨z, hz⟩ : ∃ z, I[j]? = some z := ⟨_, List.getElem?_eq_getElem (by omega)⟩
        obtain ⟨g', e', hd0⟩ := (hI3.below hbel).cell hz
        cases e'
        have hd : ∀ y : Aft wr, y.w.cell? ⟨g, j, none⟩ = some (.int .i64 z) := fun y => (y.b.cell (block_lt_of_cell hd0)).trans hd0
        have hzx : decide (x ≤ z) = false := by
          obtain ⟨a1, e1⟩ := List.getElem?_eq_some_iff.1 HX.out
          obtain ⟨a2, e2⟩ := List.getElem?_eq_some_iff.1 hz
          have := List.pairwise_iff_getElem.1 SI.out j (j + 1) a2 a1 (by omega)
          rw [e1, e2] at this
          exact decide_eq_false (by omega)
        have g0 : decide ((0 : Int) < (j : Int) + 1) = true := decide_eq_true (by omega)
        have i2 : (j : Int) < (I.length : Int) := by omega
        have i3 : (j : Int) + 1 < (I.length : Int) := by omega
        clear h0 hz hd0
        rw [show ((j + 1 : Nat) : Int) = (j : Int) + 1 from rfl] at *
        go_wp2
        refine wp_region_aft (by kernel_rfl) (by kernel_rfl) ?_
        repeat (go_big_quiet_step (exact hcall _))
        refine wpQuiet_nil ?_
        rintro _ ⟨⟨w4, hb4⟩, rfl⟩
        have hbel2 := hbel.tr hb4
        go_wp2
        go_roundw
        case rel => exact ⟨j + 1 + 1, by omega, by simp, hbel2⟩
        case measure => simp [intOf]; omega
    · obtain rfl : k = I.length := by omega
      have hX := hX.below hbel
      have hb := hb.tr hbel
      clear hI3
      go_wp2
      go_loopw [15, 16] (fun mv iv w5 => ∃ k : Nat, k ≤ 9 ∧ iv = .int .i64 k ∧ mv = .int .i64 (cntTo X kd ep k) ∧ Below wr.heap.size wr w5) (fun _ i _ => 9 - (intOf i).toNat)
      case atStart => exact ⟨0, Nat.zero_le _, rfl, rfl, Below.refl _ _⟩
      case round =>
        obtain ⟨m, hm, rfl, rfl, hbm⟩ := hrel
        have hcn := cntTo_le X kd ep m
        have hX := hX.below hbm
        by_cases hm9 : m < 9
        · go_wp2_with fail
          refine (has_hl kd ep m _ hX (by have := LX.out; omega)).mono ?_
          rintro e w6 ⟨rfl, hb6⟩
          have hbm2 := hbm.tr hb6
          cases hh : hasF (heads X) kd ep (m : Int) with
          | true =>
            have HH := Lib.hid hh
            clear hh
            go_wp2
            go_roundw
            case rel => exact ⟨m + 1, by omega, by simp, by rw [cntTo_yes HH.out]; simp, hbm2⟩
            case measure => simp [intOf]; omega
          | false =>
            have HH := Lib.hid hh
            clear hh
            go_wp2
            go_roundw
            case rel => exact ⟨m + 1, by omega, by simp, by rw [cntTo_no HH.out], hbm2⟩
            case measure => simp [intOf]; omega
        · obtain rfl : m = 9 := by omega
          have hb := hb.tr hbm
          rw [NI.out]
          clear hcn
          generalize hM : (whoF (heads X) 3 ep).length = M at *
          have HM := Lib.hid hM
          have hM40 : M ≤ 40 := by rw [← hM]; exact Nat.le_trans (who_len X 3 ep) LX.out
          clear hM
          go_wp2_with fail
          refine (aborted_hl ep mj _ hX (by have := LX.out; omega)).mono ?_
          rintro e w6 ⟨rfl, hb6⟩
          rw [HM.out]
          have hX := hX.below hb6
          have hb := hb.tr hb6
          cases hab : decide (mj ≤ (M : Int)) with
          | false =>
            have HAB := Lib.hid hab
            clear hab
            go_wp2
            go_ret
            exact ⟨rfl, hb⟩
          | true =>
            have hab' : mj ≤ (M : Int) := by simpa using hab
            clear hab
            have hbig : mj ≤ 1099511627776 := by omega
            go_wp2_with fail
            all_goals
              refine (aborted_hl ep _ w6 hX (by have := LX.out; omega)).mono ?_
              rintro e w7 ⟨rfl, hb7⟩
              rw [HM.out, decide_eq_true (by omega)]
              have hb := hb.tr hb7
              go_wp2
              go_ret
              exact ⟨rfl, hb⟩

end Go.Proofs.Ytchfoioahgfjdaa
