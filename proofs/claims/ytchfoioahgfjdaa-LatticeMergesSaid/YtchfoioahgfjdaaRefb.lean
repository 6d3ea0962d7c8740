/- The reference's Add of layer 11: of an empty list; of any. Merge. -/
import Derived.Test.YtchfoioahgfjdaaRefa
namespace Go.Proofs.Ytchfoioahgfjdaa
open Go.RowKit

set_option maxHeartbeats 6400000 in
theorem add27_nil (nodes : Int) (f : FV) (bs : List Int) (w : World) (hm : MRd w f.m bs) (hok : okF nodes f = true) :
    Calls Try.prog 27 #[.int .i64 nodes, .slice none 0 0, .agg f.arr] w fun r w' => ∃ v', r = .returned (.tuple #[v', .int .i64 0]) ∧ FSl w' v' [f] ∧ NoSpot v' ∧ Below w.heap.size w w' := by
  have hbw : Below w.heap.size w (w.alloc (.cells f.arr 31)) := (Below.refl _ _).al _
  have hblk := FBlk.new w f
  have hld := hblk.ld
  have hm1 := hm.below hbw (Nat.le_refl _)
  have HOK := Lib.hid hok
  clear hok
  go_enter Try.func27, Try.ntmps27
  go_wp2_with fail
  refine (fcheck42_any nodes f bs _ hm1).mono ?_
  rintro e w1 ⟨rfl, hb1⟩
  rw [HOK.out, errOf_t]
  have hb := hbw.tr hb1
  have hblk := hblk.below hb1 hblk.lt
  have hkd := hblk.kd
  have hep := FV.ep hblk
  have hnd := FV.nd hblk
  clear hld hm1 hbw
  go_wp2_with fail
  refine (has43_any _ _ _ [] f.kind f.epoch f.node w1 (FSl.nil _)).mono ?_
  rintro e w2 ⟨rfl, hb2⟩
  rw [show hasF [] f.kind f.epoch f.node = false from rfl]
  have hb := hb.tr hb2
  have hblk := hblk.below hb2 hblk.lt
  clear hkd hep hnd
  go_wp2
  go_loopw [9] (fun i wr => i = .int .i64 0 ∧ Below w2.heap.size w2 wr) (fun _ _ => 0)
  case atStart => exact ⟨rfl, Below.refl _ _⟩
  case round =>
    obtain ⟨rfl, hbel⟩ := hrel
    have hblk0 := hblk.below hbel hblk.lt
    have hbr := hb.tr hbel
    go_wp2
    refine wp_region_aft (by kernel_rfl) (by kernel_rfl) ?_
    repeat (go_big_quiet_step (fail))
    refine wpQuiet_nil ?_
    rintro wq ⟨⟨w5, hb5⟩, rfl⟩
    have hbr := hbr.tr hb5
    have hblk0 := hblk0.below hb5 hblk0.lt
    have hd : Below wq.heap.size wq wq := Below.refl _ _
    have ownA : OSl wq.heap.size (wq.alloc (.cells #[] 31)).drew (.slice (some ⟨wq.heap.size, 0, none⟩) 0 0) [] := World.ownsRow_made (base := wq.heap.size) (e := 31) (size := 38) wq #[] 0 (Nat.le_refl _) (by simp) rfl
    have ownC : OSl wq.heap.size ((wq.alloc (.cells #[] 31)).alloc (.cells f.arr 31)).drew (.slice (some ⟨wq.heap.size, 0, none⟩) 0 0) [] := OSl.alloc (w := wq.alloc (.cells #[] 31)) ownA (.cells f.arr 31)
    have ownB : OSl wq.heap.size ((wq.alloc (.cells f.arr 31)).alloc (.cells #[] 31)).drew (.slice (some ⟨wq.heap.size + 1, 0, none⟩) 0 0) [] := by
      have := World.ownsRow_made (base := wq.heap.size) (e := 31) (size := 38) (wq.alloc (.cells f.arr 31)) #[] 0 (by simp) (by simp) rfl
      rw [World.size_alloc] at this
      exact this
    have fB1 : FBlk ((wq.alloc (.cells f.arr 31)).alloc (.cells #[] 31)).drew wq.heap.size f := (FBlk.new wq f).alloc _
    have fB2 : FBlk ((wq.alloc (.cells #[] 31)).alloc (.cells f.arr 31)).drew (wq.heap.size + 1) f := by
      have := FBlk.new (wq.alloc (.cells #[] 31)) f
      rw [World.size_alloc] at this
      exact this
    have hG0 : w.heap.size < wq.heap.size := hblk0.lt
    have hldq := (show FBlk wq.drew w.heap.size f from hblk0).ld
    go_wp2_with fail
    go_region_held3 (fun w' => FBlk w' w.heap.size f ∧ (ld 31 (.pointer (some ⟨w.heap.size, 0, none⟩))).run Try.prog w' = .ok (.agg f.arr) w')
      (first
        | exact ⟨hblk0, hldq⟩
        | (go_split_ands; refine ⟨FBlk.alloc (by assumption) _, FBlk.ld (FBlk.alloc (by assumption) _)⟩)
        | (go_split_ands; refine ⟨FBlk.below (by assumption) hx3 hG0, FBlk.ld (FBlk.below (by assumption) hx3 hG0)⟩)
        | (go_split_ands; refine ⟨FBlk.below (by assumption) hx2 hG0, FBlk.ld (FBlk.below (by assumption) hx2 hG0)⟩)
        | (go_split_ands; refine ⟨FBlk.below (by assumption) hx1 hG0, FBlk.ld (FBlk.below (by assumption) hx1 hG0)⟩))
      ((first
        | (refine step_app23 (by rfl) (.tmp 43) (.tmp 46) (by rfl) wq.heap.size (.slice (some ⟨wq.heap.size, 0, none⟩) 0 0) [] (by rfl) (by first | exact ownA | exact ownC) _ [] (by rfl) (FSl.nil _) (by decide) (by simp <;> omega) ?_
           intro v1 w1 hown1 hx1 hgr1)
        | (refine step_app23 (by rfl) (.tmp 43) (.tmp 46) (by rfl) wq.heap.size (.slice (some ⟨wq.heap.size + 1, 0, none⟩) 0 0) [] (by rfl) ownB _ [] (by rfl) (FSl.nil _) (by decide) (by simp <;> omega) ?_
           intro v1 w1 hown1 hx1 hgr1)
        | (refine step_app23 (by rfl) (.tmp 47) (.tmp 49) (by rfl) wq.heap.size _ _ (by rfl) (by first | exact hown1 | exact OSl.alloc hown1 _) _ [f] (by rfl) (by first | exact FSl.one (FBlk.new w1 f) | exact FSl.one (FBlk.gb fB1 hgr1 (by simp [Value.ownBlock])) | exact FSl.one (FBlk.gb fB2 hgr1 (by simp [Value.ownBlock]))) (by simp) (by have := hx1.size; simp at this ⊢; omega) ?_
           intro v2 w2 hown2 hx2 hgr2)
        | (refine step_app23 (by rfl) (.tmp 50) (.tmp 53) (by rfl) wq.heap.size _ _ (by rfl) hown2 _ [] (by rfl) (FSl.nil _) (by simp) (by have := hx1.size; have := hx2.size; simp at *; omega) ?_
           intro v3 w3 hown3 hx3 hgr3)))
    all_goals
      have hbel3 : Below wq.heap.size wq w3 := by first | exact ((((hd.al _).al _).drew.trans hx1).trans hx2).trans hx3 | exact ((((hd.al _).drew.trans hx1).al _).trans hx2).trans hx3
      have hbz := hbr.tr hbel3
      have HF3 : Hid (FSl w3 v3 [f]) := hown3.fsl
      have HS3 : Hid (NoSpot v3) := hown3.noSpot
      clear hown1 hown2 hown3 hx1 hx2 hx3 hgr1 hgr2 hgr3 ownA ownB ownC fB1 fB2
      go_wp2
      all_goals
        go_ret2
        exact ⟨v3, rfl, HF3.out, HS3.out, hbz⟩

set_option maxHeartbeats 1600000 in
theorem add27_bad (nodes : Int) (v : Value) (f : FV) (bs : List Int) (w : World) (hm : MRd w f.m bs) (hok : okF nodes f = false) :
    Calls Try.prog 27 #[.int .i64 nodes, v, .agg f.arr] w fun r w' => r = .returned (.tuple #[v, .int .i64 100]) ∧ Below w.heap.size w w' := by
  have hbw : Below w.heap.size w (w.alloc (.cells f.arr 31)) := (Below.refl _ _).al _
  have hblk := FBlk.new w f
  have hld := hblk.ld
  have hm1 := hm.below hbw (Nat.le_refl _)
  have HOK := Lib.hid hok
  clear hok
  go_enter Try.func27, Try.ntmps27
  go_wp2_with fail
  refine (fcheck42_any nodes f bs _ hm1).mono ?_
  rintro e w1 ⟨rfl, hb1⟩
  rw [HOK.out, errOf_f]
  have hb := hbw.tr hb1
  go_wp2
  go_ret2
  exact ⟨rfl, hb⟩

set_option maxHeartbeats 1600000 in
theorem add27_has (nodes : Int) (va : Option Addr) (n cap : Nat) (fs : List FV) (f : FV) (bs : List Int) (w : World) (h : FSl w (.slice va n cap) fs) (hm : MRd w f.m bs) (hok : okF nodes f = true) (hhas : hasF fs f.kind f.epoch f.node = true) :
    Calls Try.prog 27 #[.int .i64 nodes, .slice va n cap, .agg f.arr] w fun r w' => r = .returned (.tuple #[.slice va n cap, .int .i64 0]) ∧ Below w.heap.size w w' := by
  have hbw : Below w.heap.size w (w.alloc (.cells f.arr 31)) := (Below.refl _ _).al _
  have hblk := FBlk.new w f
  have hld := hblk.ld
  have hm1 := hm.below hbw (Nat.le_refl _)
  have HOK := Lib.hid hok
  have HH := Lib.hid hhas
  clear hok hhas
  go_enter Try.func27, Try.ntmps27
  go_wp2_with fail
  refine (fcheck42_any nodes f bs _ hm1).mono ?_
  rintro e w1 ⟨rfl, hb1⟩
  rw [HOK.out, errOf_t]
  have hb := hbw.tr hb1
  have hblk := hblk.below hb1 hblk.lt
  have hkd := hblk.kd
  have hep := FV.ep hblk
  have hnd := FV.nd hblk
  clear hld hm1 hbw
  go_wp2_with fail
  refine (has43_any _ _ _ fs f.kind f.epoch f.node w1 (h.below hb (Nat.le_refl _))).mono ?_
  rintro e w2 ⟨rfl, hb2⟩
  rw [HH.out]
  have hb := hb.tr hb2
  go_wp2
  go_ret2
  exact ⟨rfl, hb⟩

set_option maxHeartbeats 1600000 in
theorem add27_full (nodes : Int) (va : Option Addr) (n cap : Nat) (fs : List FV) (f : FV) (bs : List Int) (w : World) (h : FSl w (.slice va n cap) fs) (hm : MRd w f.m bs) (hok : okF nodes f = true) (hhas : hasF fs f.kind f.epoch f.node = false) (hl : 200 ≤ fs.length) :
    Calls Try.prog 27 #[.int .i64 nodes, .slice va n cap, .agg f.arr] w fun r w' => r = .returned (.tuple #[.slice va n cap, .int .i64 110]) ∧ Below w.heap.size w w' := by
  obtain ⟨rfl, _, _, _⟩ := h.len
  have hbw : Below w.heap.size w (w.alloc (.cells f.arr 31)) := (Below.refl _ _).al _
  have hblk := FBlk.new w f
  have hld := hblk.ld
  have hm1 := hm.below hbw (Nat.le_refl _)
  have HOK := Lib.hid hok
  have HH := Lib.hid hhas
  have hl3 : decide ((200 : Int) ≤ (fs.length : Int)) = true := decide_eq_true (by omega)
  have hl4 : (200 : Int) ≤ (fs.length : Int) := by omega
  clear hok hhas hl
  go_enter Try.func27, Try.ntmps27
  go_wp2_with fail
  refine (fcheck42_any nodes f bs _ hm1).mono ?_
  rintro e w1 ⟨rfl, hb1⟩
  rw [HOK.out, errOf_t]
  have hb := hbw.tr hb1
  have hblk := hblk.below hb1 hblk.lt
  have hkd := hblk.kd
  have hep := FV.ep hblk
  have hnd := FV.nd hblk
  clear hld hm1 hbw
  go_wp2_with fail
  refine (has43_any _ _ _ fs f.kind f.epoch f.node w1 (h.below hb (Nat.le_refl _))).mono ?_
  rintro e w2 ⟨rfl, hb2⟩
  rw [HH.out]
  have hb := hb.tr hb2
  go_wp2
  go_ret2
  exact ⟨rfl, hb⟩

theorem add27_hl (nodes : Int) {v : Value} {X : List AF} {f : FV} {x : AF} (w : World) (h : HL w v X) (hs : NoSpot v) (hx : FRd w f x) :
    Calls Try.prog 27 #[.int .i64 nodes, v, .agg f.arr] w fun r w' => ∃ v' e, r = .returned (.tuple #[v', .int .i64 e]) ∧ HL w' v' (addX nodes X x) ∧ NoSpot v' ∧ Below w.heap.size w w' := by
  obtain ⟨fs, h, hX⟩ := h
  have hn := hX.norm
  have e2 : addable nodes (heads X) x.1 = addable nodes fs f := (addable_n hn hx.1 nodes).symm
  have e3 : posF (heads X) x.1 = posF fs f := (posF_norm' hn hx.1).symm
  unfold addX
  rw [e2, e3]
  obtain ⟨va, cap, rfl, hr⟩ := h
  have h : FSl w (.slice va fs.length cap) fs := ⟨va, cap, rfl, hr⟩
  cases hok : okF nodes f with
  | false =>
    have a1 : addable nodes fs f = false := by unfold addable; rw [hok]; rfl
    rw [a1]
    exact (add27_bad nodes _ f x.2 w hx.2 hok).mono fun e w' ⟨he, hb⟩ => ⟨_, _, he, ⟨fs, h.below hb (Nat.le_refl _), hX.below hb (Nat.le_refl _)⟩, hs, hb⟩
  | true =>
    cases hh : hasF fs f.kind f.epoch f.node with
    | true =>
      have a1 : addable nodes fs f = false := by unfold addable; rw [hok, hh]; rfl
      rw [a1]
      exact (add27_has nodes va _ cap fs f x.2 w h hx.2 hok hh).mono fun e w' ⟨he, hb⟩ => ⟨_, _, he, ⟨fs, h.below hb (Nat.le_refl _), hX.below hb (Nat.le_refl _)⟩, hs, hb⟩
    | false =>
      rcases Nat.lt_or_ge fs.length 200 with hf | hf
      · have a1 : addable nodes fs f = true := by unfold addable; rw [hok, hh]; simp [hf]
        rw [a1, if_pos rfl]
        have hLR : ∀ w', Below w.heap.size w w' → LRd w' (insF fs (posF fs f) f) (insX X (posF fs f) x) := fun w' hb => by
          have hX' := hX.below hb (Nat.le_refl _)
          exact ((hX'.take _).append (gs := [f]) (Y := [x]) ⟨hx.below hb (Nat.le_refl _), trivial⟩).append (hX'.drop _)
        cases va with
        | none =>
          have hc := hr.2.2.1 rfl
          have h0 : fs = [] := List.eq_nil_of_length_eq_zero (by have := hr.1; omega)
          subst h0
          subst hc
          exact (add27_nil nodes f x.2 w hx.2 hok).mono fun e w' ⟨v', he, hF, hS, hb⟩ => ⟨v', _, he, ⟨[f], hF, hLR w' hb⟩, hS, hb⟩
        | some ad =>
          obtain ⟨b, o, s⟩ := ad
          cases s with
          | none => exact (add27_new nodes b o _ cap fs f x.2 w h hx.2 hok hh hf).mono fun e w' ⟨v', he, hF, hS, hb⟩ => ⟨v', _, he, ⟨_, hF, hLR w' hb⟩, hS, hb⟩
          | some sp => have := hs _ _ _ rfl; cases this
      · have a1 : addable nodes fs f = false := by unfold addable; rw [hok, hh]; simp; omega
        rw [a1]
        exact (add27_full nodes va _ cap fs f x.2 w h hx.2 hok hh hf).mono fun e w' ⟨he, hb⟩ => ⟨_, _, he, ⟨fs, h.below hb (Nat.le_refl _), hX.below hb (Nat.le_refl _)⟩, hs, hb⟩

set_option maxHeartbeats 3200000 in
theorem merge15_hl (nodes : Int) {v : Value} {vb : Option Addr} {n cap : Nat} {X : List AF} {bl : List FV} {Y : List AF} (w : World) (h : HL w v X) (hs : NoSpot v) (hb : FSl w (.slice vb n cap) bl) (hY : LRd w bl Y) :
    Calls Try.prog 15 #[.int .i64 nodes, v, .slice vb n cap] w fun r w' => ∃ v', r = .returned v' ∧ HL w' v' (mergeX nodes X Y) ∧ Below w.heap.size w w' := by
  obtain ⟨rfl, hn2, hn3, hn4⟩ := hb.len
  have HYL := Lib.hid hY.len
  have hb9 : bl.length ≤ 9223372036854775807 := by unfold maxLen at hn3; omega
  go_enter Try.func15, Try.ntmps15
  go_wp2
  go_loopw [7, 8] (fun out i wr => ∃ k : Nat, k ≤ bl.length ∧ i = .int .i64 k ∧ Below w.heap.size w wr ∧ NoSpot out ∧ HL wr out (mergeX nodes X (Y.take k))) (fun _ i _ => bl.length - (intOf i).toNat)
  case atStart => exact ⟨0, Nat.zero_le _, rfl, Below.refl _ _, hs, h⟩
  case round =>
    obtain ⟨k, hk, rfl, hbel, hsp, hH⟩ := hrel
    by_cases hlt : k < bl.length
    · obtain ⟨f, hf⟩ : ∃ f, bl[k]? = some f := ⟨_, List.getElem?_eq_getElem hlt⟩
      obtain ⟨y, hy, hfy⟩ := hY.get k f hf
      obtain ⟨b, o, rfl, hat⟩ := (hb.below hbel (Nat.le_refl _)).elem hf
      have hld := run_ld31 f _ _ hat
      have hfy1 := hfy.below hbel (Nat.le_refl _)
      have HY := Lib.hid (mergeX_succ (nodes := nodes) (X := X) hy)
      have i1 : (k : Int) < (bl.length : Int) := by omega
      clear hat hf hy hfy
      go_wp2_with fail
      refine (add27_hl nodes _ hH hsp hfy1).mono ?_
      rintro e w2 ⟨v', e2, rfl, hH2, hS2, hb2⟩
      have hbel2 := hbel.tr hb2
      clear hH
      go_wp2
      go_roundw
      case rel => exact ⟨k + 1, by omega, by simp, hbel2, hS2, by rw [HY.out]; exact hH2⟩
      case measure => simp [intOf]; omega
    · obtain rfl : k = bl.length := by omega
      have hH' : HL wr u7 (mergeX nodes X Y) := by rwa [List.take_of_length_le (by rw [← HYL.out]; exact Nat.le_refl _)] at hH
      clear hH
      go_wp2
      go_ret
      exact ⟨_, rfl, hH', hbel⟩

end Go.Proofs.Ytchfoioahgfjdaa
