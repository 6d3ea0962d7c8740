/- The reference's Add of layer 11. -/
import Derived.Test.YtchfoioahgfjdaaRefl
import Derived.Deep.RegionHeld3
namespace Go.Proofs.Ytchfoioahgfjdaa
open Go.RowKit

theorem step_app23 {ops : Array Oper} {o : Oper} {a : Act} {w : World} {K : Act → World → Prop} {Q : Exit → Act → World → Prop} {E : Prop} (hgd : o.guard = none) (s x : Operand)
    (ho : o.op = .call { callee := .builtin .append, args := #[s, x], argTypes := #[23, 23] }) (B : Nat) (v : Value) (gs : List FV) (hs : a.eval s = v) (hown : OSl B w v gs) (u : Value) (fs : List FV) (hx : a.eval x = u)
    (h : FSl w u fs) (hl : gs.length + fs.length ≤ 200000) (hB : B ≤ w.heap.size)
    (k : ∀ v' w', OSl B w' v' (gs ++ fs) → Below B w w' → w.grownBy w' v.ownBlock → K (a.put o.dst v') w') : if Region.wanted o (yielded ops a.tmps) = true then Oper.wp Try.prog o a w K Q else E := by
  have hw : Region.wanted o (yielded ops a.tmps) = true := by simp [Region.wanted, hgd]
  rw [if_pos hw]
  obtain ⟨i0, hi, hz0, hz1, hz2⟩ := info_parts Try.info31
  obtain ⟨va, cap, rfl, h1, h2, h3, h4⟩ := h
  cases va with
  | none =>
    have hc := h3 rfl
    subst hc
    have h0 : fs = [] := List.eq_nil_of_length_eq_zero (by omega)
    subst h0
    have hrun := run_append_owned_none (P := Try.prog) (w := w) B 23 o.type 31 i0 38 Try.und23 hi v _ _ hown
    unfold Oper.wp
    simp [execOp, ho, resolve, invoke, builtin, hs, hx, hrun, Result.andThen]
    exact k v w (by simpa using hown) (Below.refl _ _) ⟨rfl, rfl, rfl, Nat.le_refl _, fun _ _ _ => rfl⟩
  | some ad =>
    obtain ⟨_, hat⟩ := h4 ad rfl
    refine wp_append_own _ s x 23 ho B 31 i0 (.agg (FV0 0 0 0).arr) 38 96 Try.und23 hi hz0 hz1 hz2 (FV.sz _) (by decide) v _ _ hs hown ad _ _ (flat fs) hx (flat_len fs) hat (flat_one' fs) (by simp only [maxLen]; omega) (by omega) hB fun v' w' h5 h6 _ => k v' w' ?_ ?_ h6
    · unfold OSl; rw [flat_append, List.length_append]; exact h5
    · exact grown_own (Below.refl _ _) h6 hB hown

/-- A slice that lies in a row, not in a spot. -/
def NoSpot (v : Value) : Prop := ∀ a n c, v = .slice (some a) n c → a.spot = none
theorem OSl.noSpot {B : Nat} {w : World} {v : Value} {fs : List FV} (h : OSl B w v fs) : NoSpot v := by
  intro a n c e
  obtain ⟨_, h2⟩ := h
  rcases h2 with ⟨h2, _⟩ | ⟨g, cap, cur, h2, _⟩
  · rw [h2] at e; cases e
  · rw [h2] at e; cases e; rfl

theorem posF_hit {fs : List FV} {f g : FV} {k : Nat} (hg : fs[k]? = some g) (h1 : ltF g f = false) (h2 : ∀ j, j < k → ∀ x, fs[j]? = some x → ltF x f = true) : posF fs f = k := by
  have : posI fs f = k := idxF_hit _ fs k g hg (by simp [h1]) fun j hj x hx => by simp [h2 j hj x hx]
  unfold posF; rw [this, if_neg (by omega)]; omega
theorem posF_miss {fs : List FV} {f : FV} (h2 : ∀ j, j < fs.length → ∀ x, fs[j]? = some x → ltF x f = true) : posF fs f = fs.length := by
  have : posI fs f = -1 := idxF_miss _ fs fun j hj x hx => by simp [h2 j hj x hx]
  unfold posF; rw [this, if_pos (by omega)]

theorem FSl.takek {w : World} {b o n cap k : Nat} {fs : List FV} (h : FSl w (.slice (some ⟨b, o, none⟩) n cap) fs) (hk : k ≤ n) : FSl w (.slice (some ⟨b, o, none⟩) k cap) (fs.take k) := by
  obtain ⟨rfl, h1, h2, _⟩ := h.len
  obtain ⟨va, c, e, _, _, _, h4⟩ := h
  cases e
  refine ⟨_, cap, by rw [List.length_take, Nat.min_eq_left hk], by rw [List.length_take]; omega, h2, fun h => (by cases h), fun a ha => ?_⟩
  cases ha
  refine ⟨trivial, fun j v hv => (h4 _ rfl).2 j v ?_⟩
  rw [flat_take] at hv
  have hj := (List.getElem?_eq_some_iff.1 hv).1
  rw [List.getElem?_take_of_lt (by rw [List.length_take] at hj; omega)] at hv
  exact hv
theorem FSl.dropk {w : World} {b o n cap k : Nat} {fs : List FV} (h : FSl w (.slice (some ⟨b, o, none⟩) n cap) fs) (hk : k ≤ n) : FSl w (.slice (some ⟨b, o + k * 38, none⟩) (n - k) (cap - k)) (fs.drop k) := by
  obtain ⟨rfl, h1, h2, _⟩ := h.len
  obtain ⟨va, c, e, _, _, _, h4⟩ := h
  cases e
  refine ⟨_, cap - k, by rw [List.length_drop], by rw [List.length_drop]; omega, by omega, fun h => (by cases h), fun a ha => ?_⟩
  cases ha
  refine ⟨trivial, fun j v hv => ?_⟩
  rw [flat_drop, List.getElem?_drop] at hv
  have := (h4 _ rfl).2 _ v hv
  rw [add_mk] at this ⊢
  rwa [Nat.add_assoc]
theorem FSl.dropz {w : World} {b o n cap : Nat} {fs : List FV} (h : FSl w (.slice (some ⟨b, o, none⟩) n cap) fs) {k : Nat} (hk : k ≤ n) (hc : cap = k) (a : Addr) : FSl w (.slice (some a) (n - k) (cap - k)) (fs.drop k) := by
  obtain ⟨rfl, h1, h2, _⟩ := h.len
  have h0 : fs.drop k = [] := List.drop_of_length_le (by omega)
  rw [h0]
  refine ⟨some a, cap - k, by rw [List.length_nil]; congr 1; omega, by simp, by omega, fun h => (by cases h), fun x hx => ⟨trivial, fun j v hv => by simp [flat] at hv⟩⟩



set_option maxHeartbeats 6400000 in
theorem add27_new (nodes : Int) (b o n cap : Nat) (fs : List FV) (f : FV) (bs : List Int) (w : World) (h : FSl w (.slice (some ⟨b, o, none⟩) n cap) fs) (hm : MRd w f.m bs) (hok : okF nodes f = true) (hhas : hasF fs f.kind f.epoch f.node = false) (hl : fs.length < 200) :
    Calls Try.prog 27 #[.int .i64 nodes, .slice (some ⟨b, o, none⟩) n cap, .agg f.arr] w fun r w' => ∃ v', r = .returned (.tuple #[v', .int .i64 0]) ∧ FSl w' v' (insF fs (posF fs f) f) ∧ NoSpot v' ∧ Below w.heap.size w w' := by
  obtain ⟨rfl, hn2, hn3, _⟩ := h.len
  have hbw : Below w.heap.size w (w.alloc (.cells f.arr 31)) := (Below.refl _ _).al _
  have hblk := FBlk.new w f
  have hld := hblk.ld
  have hm1 := hm.below hbw (Nat.le_refl _)
  have HOK := Lib.hid hok
  have HH := Lib.hid hhas
  have hl2 : (fs.length : Int) < 200 := by omega
  have hl3 : decide ((200 : Int) ≤ (fs.length : Int)) = false := decide_eq_false (by omega)
  have HL := Lib.hid hl
  clear hok hhas hl
  go_enter Try.func27, Try.ntmps27
  go_wp2_with fail
  refine (fcheck42_any nodes f bs _ hm1).mono ?_
  rintro e w1 ⟨rfl, hb1⟩
  rw [HOK.out, errOf_t]
  have hb := hbw.tr hb1
  have hblk := hblk.below hb1 hblk.lt
  have hkd := hblk.kd
  have hep := FV.ep hblk
  have hnd := FV.nd hblk
  clear hld hm1 hbw
  go_wp2_with fail
  refine (has43_any _ _ _ fs f.kind f.epoch f.node w1 (h.below hb (Nat.le_refl _))).mono ?_
  rintro e w2 ⟨rfl, hb2⟩
  rw [HH.out]
  have hb := hb.tr hb2
  have hblk := hblk.below hb2 hblk.lt
  clear hkd hep hnd
  go_wp2
  go_loopw [9] (fun i wr => ∃ k : Nat, k ≤ fs.length ∧ i = .int .i64 k ∧ Below w2.heap.size w2 wr ∧ Hid (∀ j, j < k → ∀ x, fs[j]? = some x → ltF x f = true)) (fun i _ => fs.length - (intOf i).toNat)
  case atStart => exact ⟨0, Nat.zero_le _, rfl, Below.refl _ _, fun j hj => by omega⟩
  case round =>
    obtain ⟨k, hk, rfl, hbel, hpre⟩ := hrel
    have hblk0 := hblk.below hbel hblk.lt
    have hbr := hb.tr hbel
    have hldf : ∀ y : Aft wr, (ld 31 (.pointer (some ⟨w.heap.size, 0, none⟩))).run Try.prog y.w = .ok (.agg f.arr) y.w := fun y => (hblk0.below y.b hblk0.lt).ld
    by_cases hlt : k < fs.length
    · obtain ⟨g, hg⟩ : ∃ g, fs[k]? = some g := ⟨_, List.getElem?_eq_getElem hlt⟩
      obtain ⟨b', o', e', hat⟩ := (h.below hbr (Nat.le_refl _)).elem hg
      cases e'
      have hldg : ∀ y : Aft wr, (ld 31 (.pointer (some ⟨b, o + k * 38, none⟩))).run Try.prog y.w = .ok (.agg g.arr) y.w := fun y => run_ld31 g _ _ (hat.below y.b (hat.lt g.ne))
      have i1 : (k : Int) < (fs.length : Int) := by omega
      have HG := Lib.hid hg
      clear hat hg
      cases hlf : ltF g f with
      | true =>
        have hls : ∀ y : Aft wr, Calls Try.prog 44 #[.agg g.arr, .agg f.arr] y.w fun e w' => e = .returned (.bool true) ∧ ∃ z : Aft wr, w' = z.w := fun y =>
          calls_aft y (by have := less44_any g f y.w; rwa [hlf] at this)
        have HLF := Lib.hid hlf
        clear hlf
        go_wp2
        refine wp_region_aft (by kernel_rfl) (by kernel_rfl) ?_
        repeat (go_big_quiet_step (exact hls _))
        refine wpQuiet_nil ?_
        rintro _ ⟨⟨w5, hb5⟩, rfl⟩
        have hbel2 := hbel.tr hb5
        go_wp2
        go_roundw
        case rel => exact ⟨k + 1, by omega, by simp, hbel2, fun j hj x hx => by
          rcases Nat.lt_or_ge j k with h' | h'
          · exact hpre.out j h' x hx
          · obtain rfl : j = k := by omega
            rw [HG.out] at hx
            cases hx
            exact HLF.out⟩
        case measure => simp [intOf]; omega
      | false =>
        have hls : ∀ y : Aft wr, Calls Try.prog 44 #[.agg g.arr, .agg f.arr] y.w fun e w' => e = .returned (.bool false) ∧ ∃ z : Aft wr, w' = z.w := fun y =>
          calls_aft y (by have := less44_any g f y.w; rwa [hlf] at this)
        have hpos := Lib.hid (posF_hit HG.out hlf hpre.out)
        clear hlf
        go_wp2
        refine wp_region_aft (by kernel_rfl) (by kernel_rfl) ?_
        repeat (go_big_quiet_step (exact hls _))
        refine wpQuiet_nil ?_
        rintro wq ⟨⟨w5, hb5⟩, rfl⟩
        have hbr := hbr.tr hb5
        have hblk0 := hblk0.below hb5 hblk0.lt
        clear hls hldg hldf i1
        have hq := h.below hbr (Nat.le_refl _)
        have hT : ∀ y, Below wq.heap.size wq y → FSl y (.slice (some ⟨b, o, none⟩) k cap) (fs.take k) := fun y hy => (hq.below hy (Nat.le_refl _)).takek hk
        have hD : ∀ y, Below wq.heap.size wq y → FSl y (.slice (if cap = k then some ⟨b, o, none⟩ else some ⟨b, o + k * 38, none⟩) (fs.length - k) (cap - k)) (fs.drop k) := fun y hy => by
          split
          · rename_i hc; exact (hq.below hy (Nat.le_refl _)).dropz hk hc _
          · exact (hq.below hy (Nat.le_refl _)).dropk hk
        have hD0 : ∀ y, fs.length = k → Below wq.heap.size wq y → FSl y (.slice (if cap = k then some ⟨b, o, none⟩ else some ⟨b, o + k * 38, none⟩) 0 (cap - k)) (fs.drop k) := fun y he hy => by
          have := hD y hy
          rwa [show fs.length - k = 0 by omega] at this
        have hd : Below wq.heap.size wq wq := Below.refl _ _
        have ownA : OSl wq.heap.size (wq.alloc (.cells #[] 31)).drew (.slice (some ⟨wq.heap.size, 0, none⟩) 0 0) [] := World.ownsRow_made (base := wq.heap.size) (e := 31) (size := 38) wq #[] 0 (Nat.le_refl _) (by simp) rfl
        have ownC : OSl wq.heap.size ((wq.alloc (.cells #[] 31)).alloc (.cells f.arr 31)).drew (.slice (some ⟨wq.heap.size, 0, none⟩) 0 0) [] := OSl.alloc (w := wq.alloc (.cells #[] 31)) ownA (.cells f.arr 31)
        have ownB : OSl wq.heap.size ((wq.alloc (.cells f.arr 31)).alloc (.cells #[] 31)).drew (.slice (some ⟨wq.heap.size + 1, 0, none⟩) 0 0) [] := by
          have := World.ownsRow_made (base := wq.heap.size) (e := 31) (size := 38) (wq.alloc (.cells f.arr 31)) #[] 0 (by simp) (by simp) rfl
          rw [World.size_alloc] at this
          exact this
        have fB1 : FBlk ((wq.alloc (.cells f.arr 31)).alloc (.cells #[] 31)).drew wq.heap.size f := (FBlk.new wq f).alloc _
        have fB2 : FBlk ((wq.alloc (.cells #[] 31)).alloc (.cells f.arr 31)).drew (wq.heap.size + 1) f := by
          have := FBlk.new (wq.alloc (.cells #[] 31)) f
          rw [World.size_alloc] at this
          exact this
        have z0 : (0 : Int) ≤ (k : Int) := by omega
        have z1 : (k : Int) ≤ (fs.length : Int) := by omega
        have z2 : (fs.length : Int) ≤ (cap : Int) := by omega
        have z3 : (k : Int) ≤ (cap : Int) := by omega
        have hG0 : w.heap.size < wq.heap.size := hblk0.lt
        have hldq := (show FBlk wq.drew w.heap.size f from hblk0).ld
        have hll := HL.out
        have hle1 : (fs.take k).length ≤ 1000 := by rw [List.length_take]; omega
        have hle2 : (fs.drop k).length ≤ 1000 := by rw [List.length_drop]; omega
        clear hl2 hl3 hpre hll
        go_wp2_with fail
        go_region_held3 (fun w' => FBlk w' w.heap.size f ∧ (ld 31 (.pointer (some ⟨w.heap.size, 0, none⟩))).run Try.prog w' = .ok (.agg f.arr) w')
          (first
            | exact ⟨hblk0, hldq⟩
            | (go_split_ands; refine ⟨FBlk.alloc (by assumption) _, FBlk.ld (FBlk.alloc (by assumption) _)⟩)
            | (go_split_ands; refine ⟨FBlk.below (by assumption) hx3 hG0, FBlk.ld (FBlk.below (by assumption) hx3 hG0)⟩)
            | (go_split_ands; refine ⟨FBlk.below (by assumption) hx2 hG0, FBlk.ld (FBlk.below (by assumption) hx2 hG0)⟩)
            | (go_split_ands; refine ⟨FBlk.below (by assumption) hx1 hG0, FBlk.ld (FBlk.below (by assumption) hx1 hG0)⟩))
          ((first
            | (refine step_app23 (by rfl) (.tmp 43) (.tmp 46) (by rfl) wq.heap.size (.slice (some ⟨wq.heap.size, 0, none⟩) 0 0) [] (by rfl) (by first | exact ownA | exact ownC) _ (fs.take k) (by rfl) (by first | exact hT _ (hd.al _).drew | exact hT _ ((hd.al _).al _).drew) (by simp only [List.length_nil]; omega) (by simp <;> omega) ?_
               intro v1 w1 hown1 hx1 hgr1)
            | (refine step_app23 (by rfl) (.tmp 43) (.tmp 46) (by rfl) wq.heap.size (.slice (some ⟨wq.heap.size + 1, 0, none⟩) 0 0) [] (by rfl) ownB _ (fs.take k) (by rfl) (by first | exact hT _ (hd.al _).drew | exact hT _ ((hd.al _).al _).drew) (by simp only [List.length_nil]; omega) (by simp <;> omega) ?_
               intro v1 w1 hown1 hx1 hgr1)
            | (refine step_app23 (by rfl) (.tmp 47) (.tmp 49) (by rfl) wq.heap.size _ _ (by rfl) (by first | exact hown1 | exact OSl.alloc hown1 _) _ [f] (by rfl) (by first | exact FSl.one (FBlk.new w1 f) | exact FSl.one (FBlk.gb fB1 hgr1 (by simp [Value.ownBlock])) | exact FSl.one (FBlk.gb fB2 hgr1 (by simp [Value.ownBlock]))) (by simp only [List.nil_append, List.length_singleton]; omega) (by have := hx1.size; simp at this ⊢; omega) ?_
               intro v2 w2 hown2 hx2 hgr2)
            | (refine step_app23 (by rfl) (.tmp 50) (.tmp 53) (by rfl) wq.heap.size _ _ (by rfl) hown2 _ (fs.drop k) (by rfl) (by first | exact hD _ ((((hd.al _).al _).drew.trans hx1).trans hx2) | exact hD _ ((((hd.al _).drew.trans hx1).al _).trans hx2) | exact hD0 _ trivial ((((hd.al _).al _).drew.trans hx1).trans hx2) | exact hD0 _ trivial ((((hd.al _).drew.trans hx1).al _).trans hx2)) (by simp only [List.nil_append, List.length_append, List.length_singleton]; omega) (by have := hx1.size; have := hx2.size; simp at *; omega) ?_
               intro v3 w3 hown3 hx3 hgr3)))
        all_goals
          have hbel3 : Below wq.heap.size wq w3 := by first | exact ((((hd.al _).al _).drew.trans hx1).trans hx2).trans hx3 | exact ((((hd.al _).drew.trans hx1).al _).trans hx2).trans hx3
          have hbz := hbr.tr hbel3
          have HF3 : Hid (FSl w3 v3 (insF fs k f)) := hown3.fsl
          have HS3 : Hid (NoSpot v3) := hown3.noSpot
          clear hown1 hown2 hown3 hx1 hx2 hx3 hgr1 hgr2 hgr3 ownA ownB ownC fB1 fB2
          go_wp2
          all_goals
            go_ret2
            exact ⟨v3, rfl, by rw [hpos.out]; exact HF3.out, HS3.out, hbz⟩
    · obtain rfl : k = fs.length := by omega
      have hpos := Lib.hid (posF_miss hpre.out)
      have g0 : decide ((fs.length : Int) < (fs.length : Int)) = false := decide_eq_false (by omega)
      go_wp2
      refine wp_region_aft (by kernel_rfl) (by kernel_rfl) ?_
      repeat (go_big_quiet_step (fail))
      refine wpQuiet_nil ?_
      rintro wq ⟨⟨w5, hb5⟩, rfl⟩
      have hbr := hbr.tr hb5
      have hblk0 := hblk0.below hb5 hblk0.lt
      clear hldf
      have hq := h.below hbr (Nat.le_refl _)
      have hT : ∀ y, Below wq.heap.size wq y → FSl y (.slice (some ⟨b, o, none⟩) fs.length cap) (fs.take fs.length) := fun y hy => (hq.below hy (Nat.le_refl _)).takek hk
      have hD : ∀ y, Below wq.heap.size wq y → FSl y (.slice (if cap = fs.length then some ⟨b, o, none⟩ else some ⟨b, o + fs.length * 38, none⟩) (fs.length - fs.length) (cap - fs.length)) (fs.drop fs.length) := fun y hy => by
        split
        · rename_i hc; exact (hq.below hy (Nat.le_refl _)).dropz hk hc _
        · exact (hq.below hy (Nat.le_refl _)).dropk hk
      have hD0 : ∀ y, fs.length = fs.length → Below wq.heap.size wq y → FSl y (.slice (if cap = fs.length then some ⟨b, o, none⟩ else some ⟨b, o + fs.length * 38, none⟩) 0 (cap - fs.length)) (fs.drop fs.length) := fun y he hy => by
        have := hD y hy
        rwa [show fs.length - fs.length = 0 by omega] at this
      have hd : Below wq.heap.size wq wq := Below.refl _ _
      have ownA : OSl wq.heap.size (wq.alloc (.cells #[] 31)).drew (.slice (some ⟨wq.heap.size, 0, none⟩) 0 0) [] := World.ownsRow_made (base := wq.heap.size) (e := 31) (size := 38) wq #[] 0 (Nat.le_refl _) (by simp) rfl
      have ownC : OSl wq.heap.size ((wq.alloc (.cells #[] 31)).alloc (.cells f.arr 31)).drew (.slice (some ⟨wq.heap.size, 0, none⟩) 0 0) [] := OSl.alloc (w := wq.alloc (.cells #[] 31)) ownA (.cells f.arr 31)
      have ownB : OSl wq.heap.size ((wq.alloc (.cells f.arr 31)).alloc (.cells #[] 31)).drew (.slice (some ⟨wq.heap.size + 1, 0, none⟩) 0 0) [] := by
        have := World.ownsRow_made (base := wq.heap.size) (e := 31) (size := 38) (wq.alloc (.cells f.arr 31)) #[] 0 (by simp) (by simp) rfl
        rw [World.size_alloc] at this
        exact this
      have fB1 : FBlk ((wq.alloc (.cells f.arr 31)).alloc (.cells #[] 31)).drew wq.heap.size f := (FBlk.new wq f).alloc _
      have fB2 : FBlk ((wq.alloc (.cells #[] 31)).alloc (.cells f.arr 31)).drew (wq.heap.size + 1) f := by
        have := FBlk.new (wq.alloc (.cells #[] 31)) f
        rw [World.size_alloc] at this
        exact this
      have z0 : (0 : Int) ≤ (fs.length : Int) := by omega
      have z1 : (fs.length : Int) ≤ (fs.length : Int) := by omega
      have z2 : (fs.length : Int) ≤ (cap : Int) := by omega
      have z3 : (fs.length : Int) ≤ (cap : Int) := by omega
      have hG0 : w.heap.size < wq.heap.size := hblk0.lt
      have hldq := (show FBlk wq.drew w.heap.size f from hblk0).ld
      have hll := HL.out
      have hle1 : (fs.take fs.length).length ≤ 1000 := by rw [List.length_take]; omega
      have hle2 : (fs.drop fs.length).length ≤ 1000 := by rw [List.length_drop]; omega
      clear hl2 hl3 hpre hll
      go_wp2_with fail
      go_region_held3 (fun w' => FBlk w' w.heap.size f ∧ (ld 31 (.pointer (some ⟨w.heap.size, 0, none⟩))).run Try.prog w' = .ok (.agg f.arr) w')
        (first
          | exact ⟨hblk0, hldq⟩
          | (go_split_ands; refine ⟨FBlk.alloc (by assumption) _, FBlk.ld (FBlk.alloc (by assumption) _)⟩)
          | (go_split_ands; refine ⟨FBlk.below (by assumption) hx3 hG0, FBlk.ld (FBlk.below (by assumption) hx3 hG0)⟩)
          | (go_split_ands; refine ⟨FBlk.below (by assumption) hx2 hG0, FBlk.ld (FBlk.below (by assumption) hx2 hG0)⟩)
          | (go_split_ands; refine ⟨FBlk.below (by assumption) hx1 hG0, FBlk.ld (FBlk.below (by assumption) hx1 hG0)⟩))
        ((first
          | (refine step_app23 (by rfl) (.tmp 43) (.tmp 46) (by rfl) wq.heap.size (.slice (some ⟨wq.heap.size, 0, none⟩) 0 0) [] (by rfl) (by first | exact ownA | exact ownC) _ (fs.take fs.length) (by rfl) (by first | exact hT _ (hd.al _).drew | exact hT _ ((hd.al _).al _).drew) (by simp only [List.length_nil]; omega) (by simp <;> omega) ?_
             intro v1 w1 hown1 hx1 hgr1)
          | (refine step_app23 (by rfl) (.tmp 43) (.tmp 46) (by rfl) wq.heap.size (.slice (some ⟨wq.heap.size + 1, 0, none⟩) 0 0) [] (by rfl) ownB _ (fs.take fs.length) (by rfl) (by first | exact hT _ (hd.al _).drew | exact hT _ ((hd.al _).al _).drew) (by simp only [List.length_nil]; omega) (by simp <;> omega) ?_
             intro v1 w1 hown1 hx1 hgr1)
          | (refine step_app23 (by rfl) (.tmp 47) (.tmp 49) (by rfl) wq.heap.size _ _ (by rfl) (by first | exact hown1 | exact OSl.alloc hown1 _) _ [f] (by rfl) (by first | exact FSl.one (FBlk.new w1 f) | exact FSl.one (FBlk.gb fB1 hgr1 (by simp [Value.ownBlock])) | exact FSl.one (FBlk.gb fB2 hgr1 (by simp [Value.ownBlock]))) (by simp only [List.nil_append, List.length_singleton]; omega) (by have := hx1.size; simp at this ⊢; omega) ?_
             intro v2 w2 hown2 hx2 hgr2)
          | (refine step_app23 (by rfl) (.tmp 50) (.tmp 53) (by rfl) wq.heap.size _ _ (by rfl) hown2 _ (fs.drop fs.length) (by rfl) (by first | exact hD _ ((((hd.al _).al _).drew.trans hx1).trans hx2) | exact hD _ ((((hd.al _).drew.trans hx1).al _).trans hx2) | exact hD0 _ trivial ((((hd.al _).al _).drew.trans hx1).trans hx2) | exact hD0 _ trivial ((((hd.al _).drew.trans hx1).al _).trans hx2)) (by simp only [List.nil_append, List.length_append, List.length_singleton]; omega) (by have := hx1.size; have := hx2.size; simp at *; omega) ?_
             intro v3 w3 hown3 hx3 hgr3)))
      all_goals
        have hbel3 : Below wq.heap.size wq w3 := by first | exact ((((hd.al _).al _).drew.trans hx1).trans hx2).trans hx3 | exact ((((hd.al _).drew.trans hx1).al _).trans hx2).trans hx3
        have hbz := hbr.tr hbel3
        have HF3 : Hid (FSl w3 v3 (insF fs fs.length f)) := hown3.fsl
        have HS3 : Hid (NoSpot v3) := hown3.noSpot
        clear hown1 hown2 hown3 hx1 hx2 hx3 hgr1 hgr2 hgr3 ownA ownB ownC fB1 fB2
        go_wp2
        all_goals
          go_ret2
          exact ⟨v3, rfl, by rw [hpos.out]; exact HF3.out, HS3.out, hbz⟩

end Go.Proofs.Ytchfoioahgfjdaa
