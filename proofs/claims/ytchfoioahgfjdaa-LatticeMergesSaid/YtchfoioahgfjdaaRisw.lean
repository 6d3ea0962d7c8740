/- LatticeRises: the plain law, and the walk. -/
import Derived.Test.YtchfoioahgfjdaaCls
namespace Go.Proofs.Ytchfoioahgfjdaa
open Go.RowKit

theorem addErr_few {n : Int} {X : List AF} (f : FV) (h : X.length < 200) : addErr n (heads X) f = errOf (okF n f) 100 := by
  unfold addErr
  cases okF n f with
  | false => rfl
  | true =>
    rw [if_pos rfl, heads_len, errOf_t]
    split
    · rfl
    · rw [if_neg (by omega)]
theorem keys_n {fs gs : List FV} (h : fs.map norm = gs.map norm) : fs.map key = gs.map key := by
  have e : ∀ hs : List FV, hs.map key = (hs.map norm).map key := fun hs => by rw [List.map_map]; rfl
  rw [e, h, ← e]
theorem LRd.keys {w : World} {fs : List FV} {X : List AF} (h : LRd w fs X) : fs.map key = keys X := (keys_n h.norm).trans (keys_heads X)
theorem LRd.okF {w : World} {fs : List FV} {X : List AF} {n : Int} (h : LRd w fs X) (hX : ∀ x ∈ X, okF n x.1 = true) {i : Nat} {f : FV} (hf : fs[i]? = some f) : okF n f = true := by
  obtain ⟨x, hx, hfx⟩ := h.get i f hf
  rw [okF_n hfx.1]
  exact hX x (List.mem_of_getElem? hx)
theorem LRd.rise {w : World} {fs : List FV} {X : List AF} (h : LRd w fs X) (hX : Sorted X) {j : Nat} {f g : FV} (hf : fs[j]? = some f) (hg : fs[j + 1]? = some g) : ltF f g = true := by
  rw [ltF_iff]
  have h1 : (fs.map key).Pairwise ltK := by rw [h.keys]; exact hX
  rw [List.pairwise_map] at h1
  obtain ⟨a1, e1⟩ := List.getElem?_eq_some_iff.1 hf
  obtain ⟨a2, e2⟩ := List.getElem?_eq_some_iff.1 hg
  have := List.pairwise_iff_getElem.1 h1 j (j + 1) a1 a2 (by omega)
  rwa [e1, e2] at this
theorem hasF_of {X : List AF} {f : FV} (h : key f ∈ keys X) : hasF (heads X) f.kind f.epoch f.node = true := by
  rw [hasF_key, keys_heads]; exact h
theorem key_n {f g : FV} (h : norm f = norm g) : key f = key g := by
  show key (norm f) = key (norm g); rw [h]

set_option maxHeartbeats 6400000 in
theorem rises_law (n : Int) (va : Value) (f : FV) (A : List AF) (bs : List Int) (w : World) (hA : HL w va A) (hf : MRd w f.m bs) :
    Calls Try.prog 6 #[.int .i64 n, va, .agg f.arr] w fun r w' => r = .returned (.bool true) ∧ Below w.heap.size w w' := by
  have lX := Nat.le_trans (grownX_le n (A.take 40)) (List.length_take_le _ _)
  have sX := grownX_sorted n (A.take 40)
  have oX := fun x hx => (grownX_ok n (A.take 40) x hx).2.2
  generalize hgX : grownX n (A.take 40) = X at *
  have eX := Lib.hid hgX
  have EE : Hid (addErr n (heads X) (f, bs).1 = errOf (okF n f) 100) := addErr_few f (by omega)
  have SY : Hid (Sorted (addX n X (f, bs))) := addX_sorted sX
  have OY : Hid (∀ y ∈ addX n X (f, bs), okF n y.1 = true) := fun y hy => (addX_mem hy).elim (oX y) fun h => by rw [h.1]; exact h.2
  have KY : Hid (∀ x ∈ X, key x.1 ∈ keys (addX n X (f, bs))) := fun x hx => List.mem_map.2 ⟨x, addX_old hx, rfl⟩
  have NY : Hid (okF n f = true → key f ∈ keys (addX n X (f, bs))) := fun h => addX_new (x := (f, bs)) h (by omega)
  have lY := addX_le n X (f, bs)
  generalize hgY : addX n X (f, bs) = Y at *
  have eY := Lib.hid hgY
  have LL : Hid (X.length ≤ 40 ∧ Y.length ≤ X.length + 1) := ⟨lX, lY⟩
  clear hgX hgY sX oX lX lY
  go_enter Try.func6, Try.ntmps6
  go_wp2_with fail
  refine (awake_any _).mono ?_
  rintro e w1 ⟨rfl, hb1⟩
  have hb : Below w.heap.size w w1 := (Below.refl _ _ |>.al _).trans (hb1.mono (by simp))
  have hblk := (FBlk.new w f).below hb1 (by simp)
  have hA := hA.below hb
  have hld := hblk.ld
  clear hb1
  cases hfew : decide (f.m.cl ≤ 100) with
  | false =>
    have HF := Lib.hid hfew
    clear hfew
    go_wp2_with (go_at_call 12; refine (few_any f _).mono ?_; rintro e w' ⟨rfl, rfl⟩; rw [HF.out])
    go_ret
    exact ⟨rfl, hb.al _⟩
  | true =>
    have HF := Lib.hid hfew
    have hcl : f.m.cl ≤ 100000 := by simp at hfew; omega
    clear hfew
    have hbal : Below w1.heap.size w1 (w1.alloc (.cells f.arr 31)) := (Below.refl _ _).al _
    go_wp2_with (go_at_call 12; refine (few_any f _).mono ?_; rintro e w' ⟨rfl, rfl⟩; rw [HF.out])
    refine (grown_hl n 40 _ (hA.below hbal) (by decide)).mono ?_
    rintro e w3 ⟨vx, rfl, hX, hb3⟩
    rw [eX.out] at hX
    have hb13 : Below w1.heap.size w1 w3 := hbal.tr hb3
    have hb := hb.tr hb13
    have hblk := hblk.below hb13 hblk.lt
    have hld := hblk.ld
    have hFR : FRd w3 f (f, bs) := ⟨rfl, hf.below hb (Nat.le_refl _)⟩
    clear hbal hb3 hb13 hA
    go_wp2_with fail
    refine (add_hl n w3 hX hFR hcl (by have := LL.out; omega)).mono ?_
    rintro e w4 ⟨vb, rfl, hY, hb4⟩
    rw [EE.out]
    rw [eY.out] at hY
    have hX := hX.below hb4
    have hb := hb.tr hb4
    have hblk := hblk.below hb4 hblk.lt
    obtain ⟨xa, ca, rfl⟩ := hX.shape
    obtain ⟨gs, hG, hR⟩ := hY
    have hgl := hR.len
    obtain ⟨yb, cb, e0, hG2⟩ := hG
    have hG : FSl w4 vb gs := ⟨yb, cb, e0, hG2⟩
    rw [hgl] at e0
    subst e0
    clear hFR hb4
    generalize hEF : errOf (okF n f) 100 = ef at *
    have HEF := Lib.hid hEF
    clear hEF
    have HGL := Lib.hid hgl
    clear hgl hG2
    go_wp2
    go_loopw [11] (fun i wr => ∃ k : Nat, k ≤ Y.length ∧ i = .int .i64 k ∧ Below w4.heap.size w4 wr) (fun i _ => Y.length - (intOf i).toNat)
    case atStart => exact ⟨0, Nat.zero_le _, rfl, Below.refl _ _⟩
    case round =>
      obtain ⟨k, hk, rfl, hbel⟩ := hrel
      have hy40 : Y.length ≤ 41 := by have := LL.out; omega
      by_cases hlt : k < Y.length
      · obtain ⟨g, hg⟩ : ∃ g, gs[k]? = some g := ⟨_, List.getElem?_eq_getElem (by rw [HGL.out]; exact hlt)⟩
        obtain ⟨b, o, rfl, hat⟩ := (hG.below hbel (Nat.le_refl _)).elem hg
        have hld1 : ∀ y : Aft wr, (ld 31 (.pointer (some ⟨b, o + k * 38, none⟩))).run Try.prog y.w = .ok (.agg g.arr) y.w := fun y => run_ld31 g _ _ (hat.below y.b (hat.lt g.ne))
        have hokg : okF n g = true := hR.okF OY.out hg
        have hck : ∀ y : Aft wr, Calls Try.prog 18 #[.int .i64 n, .agg g.arr] y.w fun e w' => e = .returned (.int .i64 0) ∧ ∃ z : Aft wr, w' = z.w := fun y =>
          calls_aft y (by have := fcheck_any n g y.w; rwa [hokg, errOf_t] at this)
        have i1 : (k : Int) < (Y.length : Int) := by omega
        have HG := Lib.hid hg
        clear hat hg hokg
        by_cases h0 : k = 0
        · have g0 : decide ((0 : Int) < (k : Int)) = false := by simp; omega
          have hld0 : ∀ y : Aft wr, (ld 31 (.pointer (some ⟨b, o, none⟩))).run Try.prog y.w = .ok (.agg g.arr) y.w := by rw [h0] at hld1; simpa using hld1
          go_wp2
          refine wp_region_aft (by kernel_rfl) (by kernel_rfl) ?_
          repeat (go_big_quiet_step (exact hck _))
          refine wpQuiet_nil ?_
          rintro _ ⟨⟨w5, hb5⟩, rfl⟩
          have hbel2 := hbel.tr hb5
          go_wp2
          go_roundw
          case rel => exact ⟨k + 1, by omega, by simp [h0], hbel2⟩
          case measure => simp [intOf]; omega
        · obtain ⟨j, rfl⟩ : ∃ j, k = j + 1 := ⟨k - 1, by omega⟩
          obtain ⟨g2, hg2⟩ : ∃ g, gs[j]? = some g := ⟨_, List.getElem?_eq_getElem (by rw [HGL.out]; omega)⟩
          obtain ⟨b', o', e', hat2⟩ := (hG.below hbel (Nat.le_refl _)).elem hg2
          cases e'
          have hld2 : ∀ y : Aft wr, (ld 31 (.pointer (some ⟨b, o + j * 38, none⟩))).run Try.prog y.w = .ok (.agg g2.arr) y.w := fun y => run_ld31 g2 _ _ (hat2.below y.b (hat2.lt g2.ne))
          have hrise : ltF g2 g = true := hR.rise SY.out hg2 HG.out
          have hls : ∀ y : Aft wr, Calls Try.prog 19 #[.agg g2.arr, .agg g.arr] y.w fun e w' => e = .returned (.bool true) ∧ ∃ z : Aft wr, w' = z.w := fun y =>
            calls_aft y (by have := less_any g2 g y.w; rwa [hrise] at this)
          have g0 : decide ((0 : Int) < (j : Int) + 1) = true := decide_eq_true (by omega)
          have i2 : (j : Int) < (Y.length : Int) := by omega
          have i3 : (j : Int) + 1 < (Y.length : Int) := by omega
          clear h0 hat2 hg2 hrise
          rw [show ((j + 1 : Nat) : Int) = (j : Int) + 1 from rfl] at *
          go_wp2
          refine wp_region_aft (by kernel_rfl) (by kernel_rfl) ?_
          repeat (go_big_quiet_step (first | exact hck _ | exact hls _))
          refine wpQuiet_nil ?_
          rintro _ ⟨⟨w5, hb5⟩, rfl⟩
          have hbel2 := hbel.tr hb5
          go_wp2
          go_roundw
          case rel => exact ⟨j + 1 + 1, by omega, by simp, hbel2⟩
          case measure => simp [intOf]; omega
      · obtain rfl : k = Y.length := by omega
        have hY : HL wr (.slice yb Y.length cb) Y := ⟨gs, hG.below hbel (Nat.le_refl _), hR.below hbel (Nat.le_refl _)⟩
        have hX := hX.below hbel
        have hb := hb.tr hbel
        have hblk := hblk.below hbel hblk.lt
        obtain ⟨fs, hFx, hRx⟩ := hX
        have HFL := Lib.hid hRx.len
        clear hG hR
        go_wp2
        go_loopw [12] (fun i wr2 => ∃ k : Nat, k ≤ X.length ∧ i = .int .i64 k ∧ Below wr.heap.size wr wr2) (fun i _ => X.length - (intOf i).toNat)
        case atStart => exact ⟨0, Nat.zero_le _, rfl, Below.refl _ _⟩
        case round =>
          obtain ⟨k, hk2, rfl, hbel2⟩ := hrel
          have hx40 : X.length ≤ 40 := by have := LL.out; omega
          by_cases hlt2 : k < X.length
          · obtain ⟨g, hg⟩ : ∃ g, fs[k]? = some g := ⟨_, List.getElem?_eq_getElem (by rw [HFL.out]; exact hlt2)⟩
            obtain ⟨x, hx, hfx⟩ := hRx.get k g hg
            obtain ⟨b, o, rfl, hat⟩ := (hFx.below hbel2 (Nat.le_refl _)).elem hg
            have hhas : hasF (heads Y) g.kind g.epoch g.node = true := hasF_of (by rw [key_n hfx.1]; exact KY.out x (List.mem_of_getElem? hx))
            have hc0 : ∀ y : Aft wr, y.w.cell? ⟨b, o + k * 38, none⟩ = some (.int .i64 g.kind) := fun y => by
              have := (hat.below y.b (hat.lt g.ne)) 0 _ (by simp [FV.cells]; rfl); rwa [Addr.add_zero'] at this
            have hc1 : ∀ y : Aft wr, y.w.cell? ⟨b, o + k * 38 + 1, none⟩ = some (.int .i64 g.epoch) := fun y => by
              have := (hat.below y.b (hat.lt g.ne)) 1 _ (by simp [FV.cells]; rfl); rwa [add_mk] at this
            have hc2 : ∀ y : Aft wr, y.w.cell? ⟨b, o + k * 38 + 2, none⟩ = some (.int .i64 g.node) := fun y => by
              have := (hat.below y.b (hat.lt g.ne)) 2 _ (by simp [FV.cells]; rfl); rwa [add_mk] at this
            have hcall : ∀ y : Aft wr, Calls Try.prog 20 #[.slice yb Y.length cb, .int .i64 g.kind, .int .i64 g.epoch, .int .i64 g.node] y.w fun e w' => e = .returned (.bool true) ∧ ∃ z : Aft wr, w' = z.w := fun y =>
              calls_aft y (by have := has_hl g.kind g.epoch g.node y.w ((hY.below hbel2).below y.b) (by omega); rwa [hhas] at this)
            have i1 : (k : Int) < (X.length : Int) := by omega
            clear hat hg hx hfx hhas
            go_wp2
            refine wp_region_aft (by kernel_rfl) (by kernel_rfl) ?_
            repeat (go_big_quiet_step (exact hcall _))
            refine wpQuiet_nil ?_
            rintro _ ⟨⟨w5, hb5⟩, rfl⟩
            have hbel3 := hbel2.tr hb5
            go_wp2
            go_roundw
            case rel => exact ⟨k + 1, by omega, by simp, hbel3⟩
            case measure => simp [intOf]; omega
          · obtain rfl : k = X.length := by omega
            have hY := hY.below hbel2
            have hb := hb.tr hbel2
            have hblk := hblk.below hbel2 hblk.lt
            have hld := hblk.ld
            have hle : (Y.length : Int) ≤ (X.length : Int) + 1 := by have := LL.out; omega
            cases hok : okF n f with
            | false =>
              have HE : Hid (ef = 100) := by unfold Hid; rw [← HEF.out, hok]; rfl
              have hef := HE.out
              subst hef
              go_wp2_with fail
              refine (fcheck_any n f _).mono ?_
              rintro e w6 ⟨rfl, hb6⟩
              rw [hok, errOf_f]
              have hb := hb.tr hb6
              go_wp2
              go_ret
              exact ⟨rfl, hb⟩
            | true =>
              have HE : Hid (ef = 0) := by unfold Hid; rw [← HEF.out, hok]; rfl
              have hef := HE.out
              subst hef
              go_wp2_with fail
              refine (fcheck_any n f _).mono ?_
              rintro e w6 ⟨rfl, hb6⟩
              rw [hok, errOf_t]
              have hb := hb.tr hb6
              have hY := hY.below hb6
              have hblk := hblk.below hb6 hblk.lt
              have hkd := hblk.kd
              have hep := FV.ep hblk
              have hnd := FV.nd hblk
              have HH := Lib.hid (hasF_of (NY.out hok))
              go_wp2_with fail
              refine (has_hl f.kind f.epoch f.node _ hY (by omega)).mono ?_
              rintro e w7 ⟨rfl, hb7⟩
              rw [HH.out]
              have hb := hb.tr hb7
              go_wp2
              go_ret
              exact ⟨rfl, hb⟩

end Go.Proofs.Ytchfoioahgfjdaa
