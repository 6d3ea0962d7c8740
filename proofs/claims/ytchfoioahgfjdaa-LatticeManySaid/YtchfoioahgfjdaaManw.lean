/- LatticeMany: the plain law, and the walk. -/
import Derived.Test.YtchfoioahgfjdaaRisw
namespace Go.Proofs.Ytchfoioahgfjdaa
open Go.RowKit

/-- The k-th fact that is added. -/
def mf (k : Nat) : FV := FV0 2 (1600 + 16 * ((k : Int) / 9)) ((k : Int) % 9)
def mx (k : Nat) : AF := (mf k, [])
def manyX : Nat → List AF
  | 0 => []
  | k + 1 => addX 9 (manyX k) (mx k)

theorem mf_ok {k : Nat} (h : k < 1000) : okF 9 (mf k) = true := by
  have h1 : (mf k).epoch = 1600 + 16 * ((k : Int) / 9) := rfl
  have h2 : (mf k).node = (k : Int) % 9 := rfl
  have h3 : (mf k).kind = 2 := rfl
  have h4 : noneM (mf k).m = true := by show noneM MV0 = true; decide +kernel
  rw [okF_eq]
  · rw [h3, if_neg (by omega), if_pos (by omega)]; exact h4
  · rw [h1, h2]
    refine ⟨by omega, by omega, by omega, by omega, ?_, ?_⟩
    · unfold ofN; rw [if_neg (by omega)]; omega
    · unfold ofNode; rw [if_neg (by omega)]; omega
theorem mf_key {j k : Nat} (h : key (mf j) = key (mf k)) : j = k := by
  simp only [key, mf, FV0, Prod.mk.injEq] at h
  omega
theorem manyX_spec : ∀ k : Nat, k ≤ 300 → (manyX k).length = min k 200 ∧ ∀ y ∈ manyX k, ∃ j, j < k ∧ key y.1 = key (mf j)
  | 0, _ => ⟨rfl, fun y hy => by simp [manyX] at hy⟩
  | k + 1, h => by
    obtain ⟨h1, h2⟩ := manyX_spec k (by omega)
    have hno : key (mx k).1 ∉ keys (manyX k) := by
      intro hk
      obtain ⟨y, hy, e⟩ := List.mem_map.1 hk
      obtain ⟨j, hj, e2⟩ := h2 y hy
      have := mf_key (e2.symm.trans e)
      omega
    refine ⟨?_, fun y hy => ?_⟩
    · show (addX 9 (manyX k) (mx k)).length = _
      by_cases hl : (manyX k).length < 200
      · rw [addX_yes ⟨mf_ok (by omega), hno, hl⟩, insX_len]; omega
      · rw [addX_no (fun e => hl e.2.2)]; omega
    · rcases addX_mem (show y ∈ addX 9 (manyX k) (mx k) from hy) with hy | ⟨rfl, _⟩
      · obtain ⟨j, hj, e⟩ := h2 y hy
        exact ⟨j, by omega, e⟩
      · exact ⟨k, by omega, rfl⟩
theorem many_err {k : Nat} (h : k ≤ 299) : addErr 9 (heads (manyX k)) (mx k).1 = if k < 200 then 0 else 110 := by
  obtain ⟨h1, h2⟩ := manyX_spec k (by omega)
  have hno : hasF (heads (manyX k)) (mx k).1.kind (mx k).1.epoch (mx k).1.node = false := by
    cases hh : hasF (heads (manyX k)) (mx k).1.kind (mx k).1.epoch (mx k).1.node with
    | false => rfl
    | true =>
      have hk := (hasF_key _ _).1 hh
      rw [keys_heads] at hk
      obtain ⟨y, hy, e⟩ := List.mem_map.1 hk
      obtain ⟨j, hj, e2⟩ := h2 y hy
      have := mf_key (e2.symm.trans e)
      omega
  unfold addErr
  rw [show okF 9 (mx k).1 = true from mf_ok (by omega), if_pos rfl, hno, if_neg (by simp), heads_len, h1]
  split
  · rw [if_neg (by omega)]
  · rw [if_pos (by omega)]

set_option maxHeartbeats 6400000 in
theorem many_law (x : Int) (f : FV) (bs : List Int) (w : World) (hx : (Lit.int .u16 x).wf = true) (hf : MRd w f.m bs) :
    Calls Try.prog 7 #[.int .u16 x, .agg f.arr] w fun r w' => r = .returned (.bool true) ∧ Below w.heap.size w w' := by
  have hx1 : 0 ≤ x ∧ x ≤ 65535 := by simp [Lit.wf, IntKind.min, IntKind.max, IntKind.signed, IntKind.bits] at hx; omega
  clear hx
  obtain ⟨hx1, hx2⟩ := hx1
  go_enter Try.func7, Try.ntmps7
  go_wp2_with fail
  refine (awake_any _).mono ?_
  rintro e w1 ⟨rfl, hb1⟩
  have hb : Below w.heap.size w w1 := (Below.refl _ _ |>.al _).trans (hb1.mono (by simp))
  have hblk := (FBlk.new w f).below hb1 (by simp)
  have hld := hblk.ld
  clear hb1
  cases hfew : decide (f.m.cl ≤ 100) with
  | false =>
    have HF := Lib.hid hfew
    clear hfew
    go_wp2_with (go_at_call 12; refine (few_any f _).mono ?_; rintro e w' ⟨rfl, rfl⟩; rw [HF.out])
    go_ret
    exact ⟨rfl, hb.al _⟩
  | true =>
    have HF := Lib.hid hfew
    have hcl : f.m.cl ≤ 100000 := by simp at hfew; omega
    clear hfew
    have hbal : Below w1.heap.size w1 (w1.alloc (.cells f.arr 31)) := (Below.refl _ _).al _
    have hb := hb.tr hbal
    have hblk := hblk.below hbal hblk.lt
    go_wp2_with (go_at_call 12; refine (few_any f _).mono ?_; rintro e w' ⟨rfl, rfl⟩; rw [HF.out])
    generalize hw2 : w1.alloc (.cells f.arr 31) = w2 at *
    clear hw2 hbal hld
    obtain ⟨N, hN⟩ : ∃ N : Nat, 150 + x % 60 = (N : Int) := ⟨(150 + x % 60).toNat, by omega⟩
    rw [hN]
    have hN1 : 150 ≤ N := by omega
    have hN2 : N ≤ 209 := by omega
    go_loopw [6, 8] (fun l i wr => ∃ k : Nat, k ≤ N ∧ i = .int .i64 k ∧ Below w2.heap.size w2 wr ∧ HL wr l (manyX k)) (fun _ i _ => N - (intOf i).toNat)
    case atStart => exact ⟨0, Nat.zero_le _, rfl, Below.refl _ _, HL.nil _⟩
    case round =>
      obtain ⟨k, hk, rfl, hbel, hX⟩ := hrel
      obtain ⟨hlen, _⟩ := manyX_spec k (by omega)
      by_cases hlt : k < N
      · have i1 : (k : Int) < (N : Int) := by omega
        go_wp2_with fail
        refine (add_hl 9 (f := mf k) (x := mx k) wr hX ⟨rfl, MRd0 wr⟩ (show (0 : Nat) ≤ 100000 from Nat.zero_le _) (by omega)).mono ?_
        rintro e w3 ⟨v', rfl, hX2, hb3⟩
        rw [many_err (by omega)]
        have hbel2 := hbel.tr hb3
        clear hlen hX hb3
        by_cases h200 : k < 200
        · rw [if_pos h200]
          have g1 : decide ((k : Int) < (200 : Int)) = true := decide_eq_true (by omega)
          have g2 : decide ((200 : Int) ≤ (k : Int)) = false := decide_eq_false (by omega)
          have H2 := Lib.hid h200
          clear h200
          go_wp2
          go_roundw
          case rel => exact ⟨k + 1, by omega, by simp, hbel2, hX2⟩
          case measure => simp [intOf]; omega
        · rw [if_neg h200]
          have g1 : decide ((k : Int) < (200 : Int)) = false := decide_eq_false (by omega)
          have g2 : decide ((200 : Int) ≤ (k : Int)) = true := decide_eq_true (by omega)
          have H2 := Lib.hid h200
          clear h200
          go_wp2
          go_roundw
          case rel => exact ⟨k + 1, by omega, by simp, hbel2, hX2⟩
          case measure => simp [intOf]; omega
      · obtain rfl : k = N := by omega
        have hb := hb.tr hbel
        have hblk := hblk.below hbel hblk.lt
        generalize manyX k = L at *
        have hM := addX_len 9 L (f, bs) 200 (Nat.le_refl _) (by omega)
        have hFR : FRd wr f (f, bs) := ⟨rfl, hf.below hb (Nat.le_refl _)⟩
        have hld := hblk.ld
        have hL1000 : L.length ≤ 1000 := by omega
        have HL1 := Lib.hid hL1000
        have HLN := Lib.hid hlen
        have HM := Lib.hid hM
        clear hM hL1000 hlen
        go_wp2_with fail
        refine (add_hl 9 (f := f) (x := (f, bs)) wr hX hFR hcl HL1.out).mono ?_
        rintro e w3 ⟨v', rfl, hY, hb3⟩
        have hX := hX.below hb3
        have hb := hb.tr hb3
        have hblk := hblk.below hb3 hblk.lt
        have hkd := hblk.kd
        have hep := FV.ep hblk
        have hnd := FV.nd hblk
        clear hld hFR
        go_wp2_with fail
        refine (has_hl f.kind f.epoch f.node w3 hX (by have := HL1.out; omega)).mono ?_
        rintro e w4 ⟨rfl, hb4⟩
        have hb := hb.tr hb4
        have hX := hX.below hb4
        have hY := hY.below hb4
        have hblk := hblk.below hb4 hblk.lt
        have hld := hblk.ld
        clear hkd hep hnd
        go_wp2_with fail
        refine (fcheck_any 9 f w4).mono ?_
        rintro e w5 ⟨rfl, hb5⟩
        have hb := hb.tr hb5
        obtain ⟨xa, ca, rfl⟩ := hX.shape
        obtain ⟨ya, cb, rfl⟩ := hY.shape
        have hEE : Hid (addErr 9 (heads L) (f, bs).1 = if okF 9 f then (if hasF (heads L) f.kind f.epoch f.node then 0 else if 200 ≤ L.length then 110 else 0) else 100) := by unfold Hid addErr; rw [heads_len]
        generalize addErr 9 (heads L) (f, bs).1 = ee at *
        generalize (addX 9 L (f, bs)).length = mm at *
        generalize okF 9 f = ok at *
        generalize hasF (heads L) f.kind f.epoch f.node = hs at *
        generalize L.length = cc at *
        have k2 : decide ((mm : Int) ≤ (200 : Int)) = true := decide_eq_true (by have := HM.out; omega)
        have hlim : (k < 200 ∧ cc = k) ∨ (k = 200 ∧ cc = 200) ∨ (200 < k ∧ cc = 200) := by have := HLN.out; omega
        clear hN1 hN2 hlt hk
        rcases hlim with ⟨ha, hc⟩ | ⟨ha, hc⟩ | ⟨ha, hc⟩
        · subst hc
          have g1 : (cc : Int) < 200 := by omega
          have g2 : decide ((cc : Int) < (200 : Int)) = true := decide_eq_true (by omega)
          cases ok with
          | false =>
            have he : ee = 100 := by rw [hEE.out]; rfl
            subst he
            rw [errOf_f]
            go_wp2
            all_goals first | (exfalso; omega) | (go_ret; exact ⟨rfl, hb⟩)
          | true =>
            rw [errOf_t]
            cases hs with
            | true =>
              have he : ee = 0 := by rw [hEE.out]; rfl
              subst he
              go_wp2
              all_goals first | (exfalso; omega) | (go_ret; exact ⟨rfl, hb⟩)
            | false =>
              have he : ee = 0 := by rw [hEE.out, if_pos rfl, if_neg (by simp), if_neg (by omega)]
              subst he
              go_wp2
              all_goals first | (exfalso; omega) | (go_ret; exact ⟨rfl, hb⟩)
        · subst hc
          subst ha
          cases ok with
          | false =>
            have he : ee = 100 := by rw [hEE.out]; rfl
            subst he
            rw [errOf_f]
            go_wp2
            all_goals first | (exfalso; omega) | (go_ret; exact ⟨rfl, hb⟩)
          | true =>
            rw [errOf_t]
            cases hs with
            | true =>
              have he : ee = 0 := by rw [hEE.out]; rfl
              subst he
              go_wp2
              all_goals first | (exfalso; omega) | (go_ret; exact ⟨rfl, hb⟩)
            | false =>
              have he : ee = 110 := by rw [hEE.out, if_pos rfl, if_neg (by simp), if_pos (by omega)]
              subst he
              go_wp2
              all_goals first | (exfalso; omega) | (go_ret; exact ⟨rfl, hb⟩)
        · subst hc
          have g1 : (200 : Int) < (k : Int) := by omega
          cases ok with
          | false =>
            have he : ee = 100 := by rw [hEE.out]; rfl
            subst he
            rw [errOf_f]
            go_wp2
            all_goals first | (exfalso; omega) | (go_ret; exact ⟨rfl, hb⟩)
          | true =>
            rw [errOf_t]
            cases hs with
            | true =>
              have he : ee = 0 := by rw [hEE.out]; rfl
              subst he
              go_wp2
              all_goals first | (exfalso; omega) | (go_ret; exact ⟨rfl, hb⟩)
            | false =>
              have he : ee = 110 := by rw [hEE.out, if_pos rfl, if_neg (by simp), if_pos (by omega)]
              subst he
              go_wp2
              all_goals first | (exfalso; omega) | (go_ret; exact ⟨rfl, hb⟩)

end Go.Proofs.Ytchfoioahgfjdaa
