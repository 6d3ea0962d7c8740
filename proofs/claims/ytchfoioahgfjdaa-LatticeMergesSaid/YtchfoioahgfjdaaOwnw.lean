/- LatticeOwn's walk: a list that is added to, or merged, stays as it was. -/
import Derived.Test.YtchfoioahgfjdaaHl
import Derived.Laws.AppendOwnNone
namespace Go.Proofs.Ytchfoioahgfjdaa
open Go.RowKit

/-- append(s, xs...), s in memory of its own. -/
theorem wpList_app23 {ops : Array Oper} {rest : List Oper} {o : Oper} {a : Act} {w : World} {Q : Exit → Act → World → Prop} (hgd : o.guard = none) (s x : Operand)
    (ho : o.op = .call { callee := .builtin .append, args := #[s, x], argTypes := #[23, 23] }) (B : Nat) (v : Value) (gs : List FV) (hs : a.eval s = v) (hown : OSl B w v gs) (u : Value) (fs : List FV) (hx : a.eval x = u)
    (h : FSl w u fs) (hl : gs.length + fs.length ≤ 200000) (hB : B ≤ w.heap.size)
    (k : ∀ v' w', OSl B w' v' (gs ++ fs) → Below B w w' → w.grownBy w' v.ownBlock → wpList Try.prog ops Q rest (a.put o.dst v') w') : wpList Try.prog ops Q (o :: rest) a w := by
  obtain ⟨i0, hi, hz0, hz1, hz2⟩ := info_parts Try.info31
  obtain ⟨va, cap, rfl, h1, h2, h3, h4⟩ := h
  cases va with
  | none =>
    have hc := h3 rfl
    subst hc
    have h0 : fs = [] := List.eq_nil_of_length_eq_zero (by omega)
    subst h0
    refine wpList_append_own_none hgd s x 23 ho B 31 i0 38 Try.und23 hi v _ _ hs hown hx (k v w (by simpa using hown) (Below.refl _ _) ⟨rfl, rfl, rfl, Nat.le_refl _, fun _ _ _ => rfl⟩)
  | some ad =>
    obtain ⟨_, hat⟩ := h4 ad rfl
    refine wpList_append_own _ hgd s x 23 ho B 31 i0 (.agg (FV0 0 0 0).arr) 38 96 Try.und23 hi hz0 hz1 hz2 (FV.sz _) (by decide) v _ _ hs hown ad _ _ (flat fs) hx (flat_len fs) hat (flat_one' fs) (by simp only [maxLen]; omega) (by omega) hB fun v' w' h5 h6 _ => k v' w' ?_ ?_ h6
    · unfold OSl; rw [flat_append, List.length_append]; exact h5
    · exact grown_own (Below.refl _ _) h6 hB hown

theorem run_st31_at (w : World) (g off : Nat) (cur : List Value) (hg : Row w g cur) (hc : off + 38 ≤ cur.length) (f : FV) :
    (st 31 (.pointer (some ⟨g, off, none⟩)) (.agg f.arr)).run Try.prog w = .ok () (w.setRow g (splice cur off f.cells).toArray) := by
  have h := run_storeCells_at (P := Try.prog) g off 31 f.cells 0 cur.toArray w hg (by rw [f.len]; simpa using hc) f.one
  rw [Nat.add_zero, splice_toArray] at h
  have hs : f.arr.size = 38 := f.sz
  have htl : f.arr.toList = f.cells := by simp [FV.arr]
  unfold st Instr.storeAt storeVar
  simp [Sem.run_bind, Instr.sureAddr, hs, Value.cells, htl, h]
theorem splice_len (cur cs : List Value) (off : Nat) (h : off + cs.length ≤ cur.length) : (splice cur off cs).length = cur.length := by
  simp [splice]; omega

/-- But for one block, as it was. -/
def But (g : Nat) (w w' : World) : Prop := ∀ k, k ≠ g → w'.heap[k]? = w.heap[k]?
theorem OSl.but {B g : Nat} {w w' : World} {v : Value} {fs : List FV} (h : OSl B w v fs) (hb : But g w w') (hg : g < B) : OSl B w' v fs := by
  obtain ⟨h1, h2⟩ := h
  refine ⟨h1, ?_⟩
  rcases h2 with h2 | ⟨g', c, cur, hv, hB, hr, r⟩
  · exact .inl h2
  · exact .inr ⟨g', c, cur, hv, hB, (hb g' (by omega)).trans hr, r⟩
theorem MRd.but {g : Nat} {w w' : World} {m : MV} {bs : List Int} (h : MRd w m bs) (hb : But g w w') (hn : ∀ y, m.ca = some y → m.cl = 0 ∨ y.block ≠ g) : MRd w' m bs := by
  obtain ⟨h0, h1, h2, h3, h4⟩ := h
  refine ⟨h0, h1, h2, h3, fun a ha => ⟨trivial, ?_⟩⟩
  rcases hn a ha with hz | hz
  · have : bs = [] := List.eq_nil_of_length_eq_zero (by omega)
    subst this
    intro j v hv; cases hv
  · exact (h4 a ha).2.same (hb _ hz)
theorem LRd.mrd {w : World} {fs : List FV} {X : List AF} (h : LRd w fs X) : ∀ f ∈ fs, ∃ bs, MRd w f.m bs := by
  intro f hf
  obtain ⟨i, hi, e⟩ := List.getElem_of_mem hf
  obtain ⟨x, _, hfx⟩ := h.get i f (by rw [List.getElem?_eq_getElem hi, e])
  exact ⟨_, hfx.2⟩
theorem MRd.old {w : World} {m : MV} {bs : List Int} (h : MRd w m bs) : ∀ y, m.ca = some y → m.cl = 0 ∨ y.block < w.heap.size := by
  intro y hy
  obtain ⟨h0, h1, h2, h3, h4⟩ := h
  rcases Nat.eq_zero_or_pos m.cl with hz | hz
  · exact .inl hz
  · exact .inr ((h4 y hy).2.lt (by intro h; rw [List.map_eq_nil_iff.1 h] at h0; simp at h0; omega))
theorem LRd.but {g : Nat} {w w' w0 : World} {B : Nat} {fs gs : List FV} {X Y : List AF} (h : LRd w gs Y) (hb : But g w w') (hf : From B fs gs) (h0 : LRd w0 fs X) (hg0 : w0.heap.size ≤ g) (hgB : g < B) : LRd w' gs Y := by
  refine h.imp fun f hfg x hx => ⟨hx.1, hx.2.but hb fun y hy => ?_⟩
  rcases hf f hfg with h1 | h1
  · obtain ⟨bs, hm⟩ := h0.mrd f h1
    exact (hm.old y hy).imp id fun h => by omega
  · exact .inr (by have := h1 y hy; omega)

theorem merge_from (nodes : Int) {v u : Value} {fs gs : List FV} {X Y : List AF} (w : World) (h1 : FSl w v fs) (h2 : LRd w fs X) (k1 : FSl w u gs) (k2 : LRd w gs Y) (hcl : ∀ y ∈ Y, y.1.m.cl ≤ 100000) (hX : X.length ≤ 1000) (hY : Y.length ≤ 100000) :
    Calls Try.prog 14 #[.int .i64 nodes, v, u] w fun r w' => ∃ v' hs, r = .returned v' ∧ OSl w.heap.size w' v' hs ∧ LRd w' hs (mergeX nodes X Y) ∧ From w.heap.size fs hs ∧ Below w.heap.size w w' := by
  obtain ⟨vb, cap, rfl, hr⟩ := k1
  exact merge_any nodes v fs X vb _ cap gs Y w h1 h2 ⟨vb, cap, rfl, hr⟩ k2 (k2.cls hcl) (by rw [h2.len]; exact hX) (by rw [k2.len]; exact hY)
theorem grown_fs (nodes : Int) {v : Value} {X : List AF} (mo : Nat) (w : World) (h : HL w v X) (hmo : mo ≤ 1000) :
    Calls Try.prog 11 #[.int .i64 nodes, v, .int .i64 mo] w fun r w' => ∃ v' fs, r = .returned v' ∧ FSl w' v' fs ∧ LRd w' fs (grownX nodes (X.take mo)) ∧ Below w.heap.size w w' := by
  obtain ⟨fs, h1, h2⟩ := h
  obtain ⟨va, ca, rfl, hr⟩ := h1
  exact (grown_any nodes va _ ca fs X mo w ⟨va, ca, rfl, hr⟩ h2 hmo).mono fun r w' ⟨v', gs', e, ho, hL, _, hb⟩ => ⟨v', gs', e, ho.fsl, hL, hb⟩

/-- A list in memory of its own: none, or one block's. -/
theorem OSl.cases {B : Nat} {w : World} {v : Value} {fs : List FV} (h : OSl B w v fs) : (v = .slice none 0 0 ∧ fs = []) ∨ ∃ g cap cur, v = .slice (some ⟨g, 0, none⟩) fs.length cap ∧ B ≤ g ∧ g < w.heap.size ∧ fs.length ≤ cap ∧ cap ≤ maxLen ∧ Row w g cur ∧ cur.length = cap * 38 := by
  obtain ⟨h1, h2⟩ := h
  rcases h2 with ⟨rfl, h0⟩ | ⟨g, cap, cur, rfl, hb, hg, hn, hm, hs, ht⟩
  · exact .inl ⟨rfl, List.eq_nil_of_length_eq_zero h0⟩
  · exact .inr ⟨g, cap, cur.toList, rfl, hb, (Array.getElem?_eq_some_iff.1 hg).1, hn, hm, by simpa [Row] using hg, by simpa using hs⟩

set_option maxHeartbeats 6400000 in
theorem own_law (n : Int) (va vb : Value) (A B : List AF) (w : World) (hA : HL w va A) (hB : HL w vb B) :
    Calls Try.prog 9 #[.int .i64 n, va, vb] w fun r w' => r = .returned (.bool true) ∧ Below w.heap.size w w' := by
  have lX := Nat.le_trans (grownX_le n (A.take 30)) (List.length_take_le _ _)
  have lY := Nat.le_trans (grownX_le n (B.take 30)) (List.length_take_le _ _)
  have CY := Lib.hid (cl_up (grown_cl (n := n) (Y := B.take 30)))
  generalize hgX : grownX n (A.take 30) = X at *
  generalize hgY : grownX n (B.take 30) = Y at *
  have eX := Lib.hid hgX
  have eY := Lib.hid hgY
  have E1 := Lib.hid (eqL_refl X)
  have E2 := Lib.hid (eqL_refl (mergeX n X Y))
  have L : Hid (X.length ≤ 30 ∧ Y.length ≤ 30 ∧ (mergeX n X Y).length ≤ 60) := ⟨lX, lY, by have := mergeX_le n Y X; omega⟩
  clear lX lY hgX hgY
  go_enter Try.func9, Try.ntmps9
  go_wp2_with fail
  refine (awake_any _).mono ?_
  rintro e w1 ⟨rfl, hb⟩
  have hA := hA.below hb
  have hB := hB.below hb
  go_wp2_with fail
  refine (grown_fs n 30 w1 hA (by decide)).mono ?_
  rintro e w2 ⟨ux, fx, rfl, FX, RX, hb2⟩
  rw [eX.out] at RX
  have hB := hB.below hb2
  have hb := hb.tr hb2
  go_wp2_with fail
  refine (grown_fs n 30 w2 hB (by decide)).mono ?_
  rintro e w3 ⟨uy, fy, rfl, FY, RY, hb3⟩
  rw [eY.out] at RY
  have FX := FX.below hb3 (Nat.le_refl _)
  have RX := RX.below hb3 (Nat.le_refl _)
  have hb := hb.tr hb3
  have hlx : fx.length ≤ 1000 := by rw [RX.len]; have := L.out; omega
  clear hA hB hb2 hb3
  have hbA : Below w3.heap.size w3 (w3.alloc (.cells #[] 31)) := (Below.refl _ _).al _
  have FX3 := FX.below hbA (Nat.le_refl _)
  have hown0 : OSl w3.heap.size (w3.alloc (.cells #[] 31)) (.slice (some ⟨w3.heap.size, 0, none⟩) 0 0) [] := World.ownsRow_made (base := w3.heap.size) (e := 31) (size := 38) w3 #[] 0 (Nat.le_refl _) (by simp) rfl
  go_wp2_with (at_builtin; refine wpList_app23 rfl (.tmp 23) (.tmp 24) rfl w3.heap.size _ [] rfl hown0 _ fx rfl FX3 ?c1 ?c2 ?_)
  case c1 => simp; omega
  case c2 => simp
  intro uw w4 hw4 hb4 _
  have hb4 := hbA.trans hb4
  have FX := FX.below hb4 (Nat.le_refl _)
  have RX := RX.below hb4 (Nat.le_refl _)
  have FY := FY.below hb4 (Nat.le_refl _)
  have RY := RY.below hb4 (Nat.le_refl _)
  have hb := hb.tr hb4
  have FW := hw4.fsl
  clear hw4 hown0 FX3 hbA hb4
  go_wp2_with fail
  refine (merge_from n w4 FX RX FY RY CY.out (by have := L.out; omega) (by have := L.out; omega)).mono ?_
  rintro e w5 ⟨um, fm, rfl, hm, Rm, _, hb5⟩
  have FX5 := FX.below hb5 (Nat.le_refl _)
  have RX5 := RX.below hb5 (Nat.le_refl _)
  have FY5 := FY.below hb5 (Nat.le_refl _)
  have RY5 := RY.below hb5 (Nat.le_refl _)
  go_wp2_with fail
  refine (merge_from n w5 FX5 RX5 FY5 RY5 CY.out (by have := L.out; omega) (by have := L.out; omega)).mono ?_
  rintro e w6 ⟨ug, fg, rfl, hg, Rg, Fg, hb6⟩
  have hm6 := hm.below hb6
  have hb46 := hb5.tr hb6
  have hlm : fm.length ≤ 1000 := by rw [Rm.len]; have := L.out; omega
  clear FX5 RX5 FY5 RY5 Rm
  rcases hm.cases with ⟨rfl, rfl⟩ | ⟨g, cap, _, rfl, hg1, hg2, hnc, hcm, _, _⟩
  · go_wp2
    go_loopw [13] (fun i wr => i = .int .i64 0 ∧ wr = w6) (fun _ _ => 0)
    case atStart => exact ⟨rfl, rfl⟩
    case round =>
      obtain ⟨rfl, rfl⟩ := hrel
      have FX := FX.below hb46 (Nat.le_refl _)
      have RX := RX.below hb46 (Nat.le_refl _)
      have FY := FY.below hb46 (Nat.le_refl _)
      have RY := RY.below hb46 (Nat.le_refl _)
      have FW := FW.below hb46 (Nat.le_refl _)
      have RW := RX
      have hG : HL wr ug (mergeX n X Y) := ⟨_, hg.fsl, Rg⟩
      have hb := hb.tr hb46
      go_wp2_with fail
      refine (same_hl wr ⟨_, FX, RX⟩ ⟨_, FW, RX⟩).mono ?_
      rintro e w7 ⟨rfl, hb7⟩
      rw [E1.out]
      go_wp2_with fail
      refine (merge_hl n w7 ⟨_, FX.below hb7 (Nat.le_refl _), RX.below hb7 (Nat.le_refl _)⟩ ⟨_, FY.below hb7 (Nat.le_refl _), RY.below hb7 (Nat.le_refl _)⟩ CY.out (by have := L.out; omega) (by have := L.out; omega)).mono ?_
      rintro e w8 ⟨uq, rfl, hQ, hb8⟩
      have hG := (hG.below hb7).below hb8
      go_wp2_with fail
      refine (same_hl w8 hQ hG).mono ?_
      rintro e w9 ⟨rfl, hb9⟩
      rw [E2.out]
      have hb := ((hb.tr hb7).tr hb8).tr hb9
      go_wp2
      go_ret
      exact ⟨rfl, hb⟩
  · have hnm : Hid (fm.length ≤ cap) := hnc
    rcases hm6.cases with ⟨h0, _⟩ | ⟨g', cap', cur0, e', _, _, _, _, hr0, hcl0⟩
    · cases h0
    cases e'
    go_wp2
    go_loopw [13] (fun i wr => ∃ k : Nat, k ≤ fm.length ∧ i = .int .i64 k ∧ But g w6 wr ∧ Below w4.heap.size w6 wr ∧ ∃ cur, Row wr g cur ∧ cur.length = cap * 38) (fun i _ => fm.length - (intOf i).toNat)
    case atStart => exact ⟨0, Nat.zero_le _, rfl, fun _ _ => rfl, Below.refl _ _, cur0, hr0, hcl0⟩
    case round =>
      obtain ⟨k, hk, rfl, hbut, hbel, cur, hrow, hcur⟩ := hrel
      by_cases hlt : k < fm.length
      · have hst := run_st31_at wr g (k * 38) cur hrow (by omega) (FV0 9 0 0)
        have hr2 : Row (wr.setRow g (splice cur (k * 38) (FV0 9 0 0).cells).toArray) g (splice cur (k * 38) (FV0 9 0 0).cells) := setRow_heap wr g _ _ _ _ hrow
        have hl2 := splice_len cur (FV0 9 0 0).cells (k * 38) (by rw [FV.len]; omega)
        have hbel2 : Below w4.heap.size w6 (wr.setRow g (splice cur (k * 38) (FV0 9 0 0).cells).toArray) := below_setRow hbel hg1 _
        have hbut2 : But g w6 (wr.setRow g (splice cur (k * 38) (FV0 9 0 0).cells).toArray) := fun j hj => (setRow_other wr g j _ hj).trans (hbut j hj)
        go_wp2
        go_roundw
        case rel => exact ⟨k + 1, by omega, by simp, hbut2, hbel2, _, hr2, by rw [hl2, hcur]⟩
        case measure => simp [intOf]; omega
      · obtain rfl : k = fm.length := by omega
        have hb4r : Below w4.heap.size w4 wr := hb46.trans hbel
        have FX7 := FX.below hb4r (Nat.le_refl _)
        have RX7 := RX.below hb4r (Nat.le_refl _)
        have FY := FY.below hb4r (Nat.le_refl _)
        have RY := RY.below hb4r (Nat.le_refl _)
        have FW := FW.below hb4r (Nat.le_refl _)
        have hG : HL wr ug (mergeX n X Y) := ⟨_, (hg.but hbut hg2).fsl, Rg.but hbut Fg RX hg1 hg2⟩
        have hb := hb.tr hb4r
        go_wp2_with fail
        refine (same_hl wr ⟨_, FX7, RX7⟩ ⟨_, FW, RX7⟩).mono ?_
        rintro e w7 ⟨rfl, hb7⟩
        rw [E1.out]
        go_wp2_with fail
        refine (merge_hl n w7 ⟨_, FX7.below hb7 (Nat.le_refl _), RX7.below hb7 (Nat.le_refl _)⟩ ⟨_, FY.below hb7 (Nat.le_refl _), RY.below hb7 (Nat.le_refl _)⟩ CY.out (by have := L.out; omega) (by have := L.out; omega)).mono ?_
        rintro e w8 ⟨uq, rfl, hQ, hb8⟩
        have hG := (hG.below hb7).below hb8
        go_wp2_with fail
        refine (same_hl w8 hQ hG).mono ?_
        rintro e w9 ⟨rfl, hb9⟩
        rw [E2.out]
        have hb := ((hb.tr hb7).tr hb8).tr hb9
        go_wp2
        go_ret
        exact ⟨rfl, hb⟩

end Go.Proofs.Ytchfoioahgfjdaa
