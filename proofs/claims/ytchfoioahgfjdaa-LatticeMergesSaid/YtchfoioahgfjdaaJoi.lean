/- LatticeJoins: the plain law, and the walk. -/
import Derived.Test.YtchfoioahgfjdaaHl
namespace Go.Proofs.Ytchfoioahgfjdaa
open Go.RowKit

/-- Facts that may be, of no epoch's publishing: their keys tell them. -/
def Good (n : Int) (x : AF) : Prop := okF n x.1 = true ∧ notE x = true ∧ x.2.length = 32 * x.1.m.cl

theorem okF_true {n : Int} {f : FV} (h : okF n f = true) : (1 ≤ n ∧ n ≤ 9 ∧ 0 ≤ f.node ∧ f.node < n) ∧ (if f.kind = 1 then (f.node == ofNode f.epoch) && okM f.m else if f.kind = 2 ∨ f.kind = 3 then noneM f.m else false) = true := by
  simp only [okF, Bool.and_eq_true, decide_eq_true_eq] at h
  obtain ⟨⟨⟨⟨⟨⟨h1, h2⟩, h3⟩, h4⟩, h5⟩, h6⟩, h7⟩ := h
  exact ⟨⟨h1, h2, h3, h4⟩, h7⟩
theorem Good.none {n : Int} {x : AF} (h : Good n x) : noneM x.1.m = true ∧ x.2 = [] := by
  obtain ⟨h1, h2, h3⟩ := h
  have h4 := (okF_true h1).2
  have hk : ¬ x.1.kind = 1 := by simpa [notE] using h2
  rw [if_neg hk] at h4
  have h5 : noneM x.1.m = true := by
    split at h4
    · exact h4
    · cases h4
  refine ⟨h5, ?_⟩
  have : x.1.m.cl = 0 := by simp [noneM] at h5; omega
  rw [this] at h3
  exact List.eq_nil_of_length_eq_zero (by simpa using h3)
theorem good_eq {n : Int} {x y : AF} (hx : Good n x) (hy : Good n y) (h : key x.1 = key y.1) : eqA x y = true := by
  obtain ⟨h1, h2⟩ := hx.none
  obtain ⟨k1, k2⟩ := hy.none
  simp only [noneM, Bool.and_eq_true, beq_iff_eq, key, Prod.mk.injEq] at h1 k1 h
  obtain ⟨⟨⟨a1, a2⟩, a3⟩, a4⟩ := h1
  obtain ⟨⟨⟨b1, b2⟩, b3⟩, b4⟩ := k1
  simp only [eqA, eqM, a1, a2, a3, a4, b1, b2, b3, b4, h2, k2, h.1, h.2.1, h.2.2, beq_self_eq_true, Bool.and_self]
theorem eqL_good {n : Int} {X Y : List AF} (hX : Sorted X) (hY : Sorted Y) (gX : ∀ x ∈ X, Good n x) (gY : ∀ y ∈ Y, Good n y) (h : ∀ k, k ∈ keys X ↔ k ∈ keys Y) : eqL X Y = true := by
  have e := sorted_ext hX hY h
  refine eqL_of (by have := congrArg List.length e; simpa [keys] using this) fun i x y hx hy => ?_
  refine good_eq (gX x (List.mem_of_getElem? hx)) (gY y (List.mem_of_getElem? hy)) ?_
  have h1 : (keys X)[i]? = some (key x.1) := by simp [keys, hx]
  have h2 : (keys Y)[i]? = some (key y.1) := by simp [keys, hy]
  rw [e, h2] at h1
  exact (Option.some.inj h1).symm
theorem merge_good {n : Int} {X Y : List AF} (hX : ∀ x ∈ X, Good n x) (hY : ∀ y ∈ Y, Good n y) : ∀ z ∈ mergeX n X Y, Good n z := fun z hz => (mergeX_mem hz).elim (hX z) fun h => hY z h.1

/-- What LatticeJoins merges. -/
def joinOf (n : Int) (A : List AF) : List AF := grownX n (((A.take 40).filter notE).take 40)
theorem joinOf_good {n : Int} {A : List AF} (h : ∀ x ∈ A, x.2.length = 32 * x.1.m.cl) : ∀ x ∈ joinOf n A, Good n x := by
  intro x hx
  obtain ⟨h1, _, h2⟩ := grownX_ok n _ x hx
  have h3 := List.mem_filter.1 (List.mem_of_mem_take h1)
  exact ⟨h2, h3.2, h x (List.mem_of_mem_take h3.1)⟩
theorem joinOf_len (n : Int) (A : List AF) : (joinOf n A).length ≤ 40 := Nat.le_trans (grownX_le _ _) (List.length_take_le _ _)

theorem join_one {n : Int} {X Y : List AF} (hX : Sorted X) (hY : Sorted Y) (gX : ∀ x ∈ X, Good n x) (gY : ∀ y ∈ Y, Good n y) (lX : X.length ≤ 40) (lY : Y.length ≤ 40) : eqL (mergeX n X Y) (mergeX n Y X) = true := by
  refine eqL_good (mergeX_sorted hX) (mergeX_sorted hY) (merge_good gX gY) (merge_good gY gX) fun k => ?_
  rw [mergeX_keys (fun y hy => (gY y hy).1) (by omega), mergeX_keys (fun y hy => (gX y hy).1) (by omega)]
  exact or_comm
theorem join_two {n : Int} {X Y Z : List AF} (hX : Sorted X) (gX : ∀ x ∈ X, Good n x) (gY : ∀ y ∈ Y, Good n y) (gZ : ∀ z ∈ Z, Good n z) (lX : X.length ≤ 40) (lY : Y.length ≤ 40) (lZ : Z.length ≤ 40) :
    eqL (mergeX n (mergeX n X Y) Z) (mergeX n X (mergeX n Y Z)) = true := by
  have h1 := mergeX_le n Y X
  have h2 := mergeX_le n Z Y
  refine eqL_good (mergeX_sorted (mergeX_sorted hX)) (mergeX_sorted hX) (merge_good (merge_good gX gY) gZ) (merge_good gX (merge_good gY gZ)) fun k => ?_
  rw [mergeX_keys (fun y hy => (gZ y hy).1) (by omega), mergeX_keys (fun y hy => (gY y hy).1) (by omega), mergeX_keys (fun y hy => (merge_good gY gZ y hy).1) (by omega), mergeX_keys (fun y hy => (gZ y hy).1) (by omega)]
  exact or_assoc
theorem join_three {n : Int} {X Y : List AF} (hX : Sorted X) (gX : ∀ x ∈ X, Good n x) (gY : ∀ y ∈ Y, Good n y) (lX : X.length ≤ 80) (lY : Y.length ≤ 40) (hs : ∀ k, k ∈ keys Y → k ∈ keys X) : eqL (mergeX n X Y) X = true := by
  refine eqL_good (mergeX_sorted hX) hX (merge_good gX gY) gX fun k => ?_
  rw [mergeX_keys (fun y hy => (gY y hy).1) (by omega)]
  exact ⟨fun h => h.elim id (hs k), .inl⟩

set_option maxHeartbeats 6400000 in
theorem joins_any (n : Int) (va vb vc : Value) (A B C : List AF) (w : World) (hA : HL w va A) (hB : HL w vb B) (hC : HL w vc C) :
    Calls Try.prog 5 #[.int .i64 n, va, vb, vc] w fun r w' => r = .returned (.bool true) ∧ Below w.heap.size w w' := by
  have gX := joinOf_good (n := n) hA.all
  have gY := joinOf_good (n := n) hB.all
  have gZ := joinOf_good (n := n) hC.all
  have lX := joinOf_len n A
  have lY := joinOf_len n B
  have lZ := joinOf_len n C
  have sX := grownX_sorted n (((A.take 40).filter notE).take 40)
  have sY := grownX_sorted n (((B.take 40).filter notE).take 40)
  have cX := cl_up (grown_cl (n := n) (Y := (((A.take 40).filter notE).take 40)))
  have cY := cl_up (grown_cl (n := n) (Y := (((B.take 40).filter notE).take 40)))
  have cZ := cl_up (grown_cl (n := n) (Y := (((C.take 40).filter notE).take 40)))
  change Sorted (joinOf n A) at sX
  change Sorted (joinOf n B) at sY
  change ∀ x ∈ joinOf n A, _ at cX
  change ∀ x ∈ joinOf n B, _ at cY
  change ∀ x ∈ joinOf n C, _ at cZ
  have eX : Hid (grownX n (((A.take 40).filter notE).take 40) = joinOf n A) := rfl
  have eY : Hid (grownX n (((B.take 40).filter notE).take 40) = joinOf n B) := rfl
  have eZ : Hid (grownX n (((C.take 40).filter notE).take 40) = joinOf n C) := rfl
  generalize joinOf n A = X at *
  generalize joinOf n B = Y at *
  generalize joinOf n C = Z at *
  have E1 := Lib.hid (join_one sX sY gX gY lX lY)
  have E2 := Lib.hid (join_two sX gX gY gZ lX lY lZ)
  have lXY := mergeX_le n Y X
  have lYZ := mergeX_le n Z Y
  have E3 := Lib.hid (join_three (mergeX_sorted sX) (merge_good gX gY) gY (by omega) lY fun k hk => (mergeX_keys (fun y hy => (gY y hy).1) (by omega) k).2 (.inr hk))
  have E4 := Lib.hid (join_three sX gX gX (by omega) lX fun k hk => hk)
  have cYZ := Lib.hid (merge_cl (n := n) cY cZ)
  have L : Hid (X.length ≤ 40 ∧ Y.length ≤ 40 ∧ Z.length ≤ 40 ∧ (mergeX n X Y).length ≤ 80 ∧ (mergeX n Y Z).length ≤ 80) := ⟨lX, lY, lZ, by omega, by omega⟩
  have CX := Lib.hid cX
  have CY := Lib.hid cY
  have CZ := Lib.hid cZ
  clear gX gY gZ sX sY lX lY lZ lXY lYZ cX cY cZ
  go_enter Try.func5, Try.ntmps5
  go_wp2_with fail
  refine (awake_any _).mono ?_
  rintro e w1 ⟨rfl, hb⟩
  have hA := hA.below hb
  have hB := hB.below hb
  have hC := hC.below hb
  go_wp2_with fail
  refine (plain_hl 40 w1 hA (by decide)).mono ?_
  rintro e w2 ⟨pa, rfl, hpa, hb2⟩
  have hB := hB.below hb2
  have hC := hC.below hb2
  have hb := hb.tr hb2
  go_wp2_with fail
  refine (grown_hl n 40 w2 hpa (by decide)).mono ?_
  rintro e w3 ⟨vx, rfl, hX, hb3⟩
  rw [eX.out] at hX
  have hB := hB.below hb3
  have hC := hC.below hb3
  have hb := hb.tr hb3
  go_wp2_with fail
  refine (plain_hl 40 w3 hB (by decide)).mono ?_
  rintro e w4 ⟨pb, rfl, hpb, hb4⟩
  have hC := hC.below hb4
  have hX := hX.below hb4
  have hb := hb.tr hb4
  go_wp2_with fail
  refine (grown_hl n 40 w4 hpb (by decide)).mono ?_
  rintro e w5 ⟨vy, rfl, hY, hb5⟩
  rw [eY.out] at hY
  have hC := hC.below hb5
  have hX := hX.below hb5
  have hb := hb.tr hb5
  go_wp2_with fail
  refine (plain_hl 40 w5 hC (by decide)).mono ?_
  rintro e w6 ⟨pc, rfl, hpc, hb6⟩
  have hX := hX.below hb6
  have hY := hY.below hb6
  have hb := hb.tr hb6
  go_wp2_with fail
  refine (grown_hl n 40 w6 hpc (by decide)).mono ?_
  rintro e w7 ⟨vz, rfl, hZ, hb7⟩
  rw [eZ.out] at hZ
  have hX := hX.below hb7
  have hY := hY.below hb7
  have hb := hb.tr hb7
  go_wp2_with fail
  refine (merge_hl n w7 hX hY CY.out (by have := L.out; omega) (by have := L.out; omega)).mono ?_
  rintro e w8 ⟨vxy, rfl, hXY, hb8⟩
  have hX := hX.below hb8
  have hY := hY.below hb8
  have hZ := hZ.below hb8
  have hb := hb.tr hb8
  go_wp2_with fail
  refine (merge_hl n w8 hY hX CX.out (by have := L.out; omega) (by have := L.out; omega)).mono ?_
  rintro e w9 ⟨vyx, rfl, hYX, hb9⟩
  have hX := hX.below hb9
  have hY := hY.below hb9
  have hZ := hZ.below hb9
  have hXY := hXY.below hb9
  have hb := hb.tr hb9
  go_wp2_with fail
  refine (same_hl w9 hXY hYX).mono ?_
  rintro e w10 ⟨rfl, hb10⟩
  rw [E1.out]
  have hX := hX.below hb10
  have hY := hY.below hb10
  have hZ := hZ.below hb10
  have hXY := hXY.below hb10
  have hb := hb.tr hb10
  go_wp2_with fail
  refine (merge_hl n w10 hXY hZ CZ.out (by have := L.out; omega) (by have := L.out; omega)).mono ?_
  rintro e w11 ⟨vxyz, rfl, hP, hb11⟩
  have hX := hX.below hb11
  have hY := hY.below hb11
  have hZ := hZ.below hb11
  have hXY := hXY.below hb11
  have hb := hb.tr hb11
  go_wp2_with fail
  refine (merge_hl n w11 hY hZ CZ.out (by have := L.out; omega) (by have := L.out; omega)).mono ?_
  rintro e w12 ⟨vyz, rfl, hYZ, hb12⟩
  have hX := hX.below hb12
  have hY := hY.below hb12
  have hXY := hXY.below hb12
  have hP := hP.below hb12
  have hb := hb.tr hb12
  go_wp2_with fail
  refine (merge_hl n w12 hX hYZ cYZ.out (by have := L.out; omega) (by have := L.out; omega)).mono ?_
  rintro e w13 ⟨vq, rfl, hQ, hb13⟩
  have hX := hX.below hb13
  have hY := hY.below hb13
  have hXY := hXY.below hb13
  have hP := hP.below hb13
  have hb := hb.tr hb13
  go_wp2_with fail
  refine (same_hl w13 hP hQ).mono ?_
  rintro e w14 ⟨rfl, hb14⟩
  rw [E2.out]
  have hX := hX.below hb14
  have hY := hY.below hb14
  have hXY := hXY.below hb14
  have hb := hb.tr hb14
  go_wp2_with fail
  refine (merge_hl n w14 hXY hY CY.out (by have := L.out; omega) (by have := L.out; omega)).mono ?_
  rintro e w15 ⟨vr, rfl, hR, hb15⟩
  have hX := hX.below hb15
  have hXY := hXY.below hb15
  have hb := hb.tr hb15
  go_wp2_with fail
  refine (same_hl w15 hR hXY).mono ?_
  rintro e w16 ⟨rfl, hb16⟩
  rw [E3.out]
  have hX := hX.below hb16
  have hb := hb.tr hb16
  go_wp2_with fail
  refine (merge_hl n w16 hX hX CX.out (by have := L.out; omega) (by have := L.out; omega)).mono ?_
  rintro e w17 ⟨vs, rfl, hS, hb17⟩
  have hX := hX.below hb17
  have hb := hb.tr hb17
  go_wp2_with fail
  refine (same_hl w17 hS hX).mono ?_
  rintro e w18 ⟨rfl, hb18⟩
  rw [E4.out]
  have hb := hb.tr hb18
  go_wp2
  go_ret
  exact ⟨rfl, hb⟩

end Go.Proofs.Ytchfoioahgfjdaa
