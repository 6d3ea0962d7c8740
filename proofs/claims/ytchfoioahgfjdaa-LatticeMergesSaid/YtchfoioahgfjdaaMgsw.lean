/- LatticeMerges: the walk. -/
import Derived.Test.YtchfoioahgfjdaaRefb
namespace Go.Proofs.Ytchfoioahgfjdaa
open Go.RowKit

set_option maxHeartbeats 6400000 in
theorem merges_law (nodes : Int) (va vb0 : Value) (A B : List AF) (w : World) (hA : HL w va A) (hB : HL w vb0 B) :
    Calls Try.prog 4 #[.int .i64 nodes, va, vb0] w fun r w' => r = .returned (.bool true) ∧ Below w.heap.size w w' := by
  obtain ⟨i0, hi, hz0, hz1, hz2⟩ := info_parts Try.info31
  have LX : Hid ((grownX nodes (A.take 40)).length ≤ 200) := grownX_len nodes (A.take 40)
  go_enter Try.func4, Try.ntmps4
  go_wp2_with fail
  refine (awake_any _).mono ?_
  rintro e w1 ⟨rfl, hb⟩
  obtain ⟨fa, FA, RA⟩ := hA.below hb
  obtain ⟨aa, ca, rfl, hra⟩ := FA
  go_wp2_with fail
  refine (grown_any nodes aa _ ca fa A 40 w1 ⟨aa, ca, rfl, hra⟩ RA (by decide)).mono ?_
  rintro e w2 ⟨vx, gx, rfl, hox, hRx, _, hb2⟩
  have hX : HL w2 vx (grownX nodes (A.take 40)) := ⟨gx, hox.fsl, hRx⟩
  have hns := hox.noSpot
  generalize grownX nodes (A.take 40) = X at *
  obtain ⟨fs, h, hY⟩ := (hB.below hb).below hb2
  have hb := hb.tr hb2
  obtain ⟨va', cap, rfl, hr⟩ := h
  have h : FSl w2 (.slice va' fs.length cap) fs := ⟨va', cap, rfl, hr⟩
  obtain ⟨hn2, hn3, hn4, _⟩ := hr
  have HYL := Lib.hid hY.len
  clear hox hRx hra RA hb2 hA hB
  go_wp2
  go_loopw [9, 10] (fun out i wr => ∃ k : Nat, k ≤ fs.length ∧ k ≤ 40 ∧ i = .int .i64 k ∧ Below w2.heap.size w2 wr ∧ ∃ gs, gs.length ≤ k ∧ OSl w2.heap.size wr out gs ∧ LRd w2 gs ((B.take k).filter few))
    (fun _ i _ => fs.length - (intOf i).toNat)
  case atStart => exact ⟨0, Nat.zero_le _, Nat.zero_le _, rfl, Below.refl _ _, [], Nat.le_refl _, OSl.nil _ _, by simp [LRd]⟩
  case round =>
    obtain ⟨k, hk, hkm, rfl, hbel, gs, hgk, hown, hLR⟩ := hrel
    have hsz := hbel.size
    by_cases hlt : k < fs.length
    · by_cases hlm : k < 40
      · obtain ⟨f, hfk⟩ : ∃ f, fs[k]? = some f := ⟨_, List.getElem?_eq_getElem hlt⟩
        obtain ⟨x, hx, hfx⟩ := hY.get k f hfk
        obtain ⟨b, o, rfl, hat⟩ := (h.below hbel (Nat.le_refl _)).elem hfk
        have hld := run_ld31 f _ _ hat
        have hld2 := run_ld31 f _ _ (hat.alloc' (.cells f.arr 31))
        have i0' : (k : Int) < (fs.length : Int) := by omega
        have i1 : (k : Int) < 40 := by omega
        have HX := Lib.hid hx
        have HC := Lib.hid (cl_n hfx.1)
        clear hfk hx hat
        cases hfew : decide (f.m.cl ≤ 100) with
        | true =>
          have HP : Hid (few x = true) := by unfold Hid few; rw [← HC.out]; exact hfew
          have HF := Lib.hid hfew
          have hown2 := (hown.alloc (.cells f.arr 31)).alloc (.cells f.arr 31)
          have hF1 := FSl.one (FBlk.new (wr.alloc (.cells f.arr 31)) f)
          rw [World.size_alloc] at hF1
          have hbl2 := (hbel.al (.cells f.arr 31)).al (.cells f.arr 31)
          clear hfew hown
          go_wp2_with (first | (go_at_call 12; refine (few_any f _).mono ?_; rintro e w' ⟨rfl, rfl⟩; rw [HF.out]) | (at_builtin; refine wpList_app23 rfl (.tmp 34) (.tmp 39) rfl w2.heap.size _ gs rfl hown2 _ [f] rfl hF1 ?c1 ?c2 ?_))
          case c1 => simp only [List.length_singleton]; omega
          case c2 => simp; omega
          intro v' w3 hown3 hb3 _
          have hbel3 := hbl2.trans hb3
          have hLR3 := LRd.append hLR (gs := [f]) (Y := [x]) ⟨hfx, trivial⟩
          clear hown2 hF1
          go_wp2
          go_roundw
          case rel => exact ⟨k + 1, by omega, by omega, by simp, hbel3, gs ++ [f], by simp; omega, hown3, by rw [filt_in HX.out HP.out]; exact hLR3⟩
          case measure => simp [intOf]; omega
        | false =>
          have HP : Hid (few x = false) := by unfold Hid few; rw [← HC.out]; exact hfew
          have HF := Lib.hid hfew
          have hown2 := hown.alloc (.cells f.arr 31)
          have hbl2 := hbel.al (.cells f.arr 31)
          clear hfew hown
          go_wp2_with (go_at_call 12; refine (few_any f _).mono ?_; rintro e w' ⟨rfl, rfl⟩; rw [HF.out])
          go_roundw
          case rel => exact ⟨k + 1, by omega, by omega, by simp, hbl2, gs, by omega, hown2, by rw [filt_out HX.out HP.out]; exact hLR⟩
          case measure => simp [intOf]; omega
      · obtain rfl : k = 40 := by omega
        have i0' : (40 : Int) < (fs.length : Int) := by omega
        have hLR' := hLR
        have hL : HL wr u9 ((B.take 40).filter few) := ⟨gs, hown.fsl, hLR'.below hbel (Nat.le_refl _)⟩
        obtain ⟨vb, n, cap, e9⟩ : ∃ vb n cap, u9 = .slice vb n cap := by obtain ⟨va, c, e⟩ := hown.shape; exact ⟨va, _, c, e⟩
        subst e9
        have hx := hX.below hbel
        have hbw := hb.tr hbel
        have hlL : ((B.take 40).filter few).length ≤ 100000 := Nat.le_trans (List.length_filter_le _ _) (Nat.le_trans (List.length_take_le _ _) (by decide))
        have hcL : ∀ y ∈ (B.take 40).filter few, y.1.m.cl ≤ 100000 := fun y hy => by
          have := (List.mem_filter.1 hy).2
          simp [few] at this
          omega
        clear hLR hown hLR'
        go_wp2_with fail
        refine (merge_hl nodes wr hx hL hcL (by have := LX.out; omega) hlL).mono ?_
        rintro e w4 ⟨vm, rfl, hM, hb4⟩
        obtain ⟨gs4, F4, R4⟩ := hL.below hb4
        go_wp2_with fail
        refine (merge15_hl nodes w4 (hx.below hb4) hns F4 R4).mono ?_
        rintro e w5 ⟨vr, rfl, hR, hb5⟩
        go_wp2_with fail
        refine (same_hl w5 (hM.below hb5) hR).mono ?_
        rintro e w6 ⟨rfl, hb6⟩
        rw [eqL_refl]
        have hbz := ((hbw.tr hb4).tr hb5).tr hb6
        go_wp2
        go_ret
        exact ⟨rfl, hbz⟩
    · obtain rfl : k = fs.length := by omega
      have hLR' : LRd w2 gs ((B.take 40).filter few) := by
        rwa [HYL.out, List.take_length, ← List.take_of_length_le (l := B) (i := 40) (by rw [← HYL.out]; exact hkm)] at hLR
      have hL : HL wr u9 ((B.take 40).filter few) := ⟨gs, hown.fsl, hLR'.below hbel (Nat.le_refl _)⟩
      obtain ⟨vb, n, cap, e9⟩ : ∃ vb n cap, u9 = .slice vb n cap := by obtain ⟨va, c, e⟩ := hown.shape; exact ⟨va, _, c, e⟩
      subst e9
      have hx := hX.below hbel
      have hbw := hb.tr hbel
      have hlL : ((B.take 40).filter few).length ≤ 100000 := Nat.le_trans (List.length_filter_le _ _) (Nat.le_trans (List.length_take_le _ _) (by decide))
      have hcL : ∀ y ∈ (B.take 40).filter few, y.1.m.cl ≤ 100000 := fun y hy => by
        have := (List.mem_filter.1 hy).2
        simp [few] at this
        omega
      clear hLR hown hLR'
      go_wp2_with fail
      refine (merge_hl nodes wr hx hL hcL (by have := LX.out; omega) hlL).mono ?_
      rintro e w4 ⟨vm, rfl, hM, hb4⟩
      obtain ⟨gs4, F4, R4⟩ := hL.below hb4
      go_wp2_with fail
      refine (merge15_hl nodes w4 (hx.below hb4) hns F4 R4).mono ?_
      rintro e w5 ⟨vr, rfl, hR, hb5⟩
      go_wp2_with fail
      refine (same_hl w5 (hM.below hb5) hR).mono ?_
      rintro e w6 ⟨rfl, hb6⟩
      rw [eqL_refl]
      have hbz := ((hbw.tr hb4).tr hb5).tr hb6
      go_wp2
      go_ret
      exact ⟨rfl, hbz⟩

end Go.Proofs.Ytchfoioahgfjdaa
