/- slices.Insert of one fact into a slice of the call's own. -/
import Derived.Test.YtchfoioahgfjdaaCpy
import Derived.StillTailTactics
namespace Go.Proofs.Ytchfoioahgfjdaa
open Go.RowKit

theorem ins_list1 (C D F : List Value) (i n : Nat) (hF : F.length = 38) (hD : D.length = (n - i) * 38) (hi : i ≤ n) (hC : (n + 1) * 38 ≤ C.length) :
    (splice (splice C ((i + 1) * 38) D) (i * 38) F).take ((n + 1) * 38) = C.take (i * 38) ++ F ++ D := by
  have e : (n + 1) * 38 = i * 38 + 38 + (n - i) * 38 := by omega
  unfold splice
  rw [hF]
  have e1 : (C.take ((i + 1) * 38) ++ (D ++ C.drop ((i + 1) * 38 + D.length))).take (i * 38) = C.take (i * 38) := by
    rw [List.take_append_of_le_length (by simp; omega), List.take_take, Nat.min_eq_left (by omega)]
  have e2 : (C.take ((i + 1) * 38) ++ (D ++ C.drop ((i + 1) * 38 + D.length))).drop (i * 38 + 38) = D ++ C.drop ((i + 1) * 38 + D.length) := by
    rw [List.drop_append, List.drop_of_length_le (by simp; omega), List.nil_append]
    rw [show i * 38 + 38 - (C.take ((i + 1) * 38)).length = 0 by simp; omega, List.drop_zero]
  rw [e1, e2, ← List.append_assoc, ← List.append_assoc]
  rw [List.take_append_of_le_length (by simp; omega)]
  exact List.take_of_length_le (by simp; omega)
theorem ins_list2 (C D F : List Value) (i n : Nat) (hF : F.length = 38) (hD : D.length = (n - i) * 38) (hi : i ≤ n) (hC : (n + 1) * 38 ≤ C.length) :
    (splice (splice C (i * 38) F) ((i + 1) * 38) D).take ((n + 1) * 38) = C.take (i * 38) ++ F ++ D := by
  unfold splice
  rw [hF]
  have e1 : (C.take (i * 38) ++ (F ++ C.drop (i * 38 + 38))).take ((i + 1) * 38) = C.take (i * 38) ++ F := by
    rw [← List.append_assoc, List.take_append_of_le_length (by simp; omega)]
    exact List.take_of_length_le (by simp; omega)
  rw [e1, ← List.append_assoc, List.take_append_of_le_length (by simp; omega)]
  exact List.take_of_length_le (by simp; omega)

def insF (fs : List FV) (i : Nat) (f : FV) : List FV := fs.take i ++ [f] ++ fs.drop i
theorem insF_len (fs : List FV) (i : Nat) (f : FV) : (insF fs i f).length = fs.length + 1 := by
  have h : (fs.take i ++ fs.drop i).length = fs.length := by rw [List.take_append_drop]
  simp only [insF, List.length_append, List.length_cons, List.length_nil] at h ⊢; omega
theorem insF_flat (fs : List FV) (i : Nat) (f : FV) : flat (insF fs i f) = (flat fs).take (i * 38) ++ f.cells ++ flat (fs.drop i) := by
  rw [insF, flat_append, flat_append, flat_take, flat_one]

set_option maxHeartbeats 1600000 in
/-- at the end -/
theorem insert_end (B : Nat) (v : Value) (fs : List FV) (f : FV) (vb : Nat) (w : World) (ho : OSl B w v fs) (hv : FBlk w vb f) (hl : fs.length ≤ 1000) (hB : B ≤ w.heap.size) :
    Calls Try.prog 30 #[v, .int .i64 fs.length, .slice (some ⟨vb, 0, none⟩) 1 1] w fun r w' => ∃ v', r = .returned v' ∧ OSl B w' v' (insF fs fs.length f) ∧ Below B w w' ∧ w.grownBy w' v.ownBlock := by
  obtain ⟨i0, hi, hz0, hz1, hz2⟩ := info_parts Try.info31
  have hat := hv.at
  obtain ⟨va, cap, rfl⟩ := ho.shape
  obtain ⟨_, hn2, hn3, hn4⟩ := ho.fsl.len
  have fin : ∀ (v' : Value) (w' : World), w'.ownsRow B 31 38 v' (fs.length + 1) (flat fs ++ f.cells) → w.grownBy w' (Value.slice va fs.length cap).ownBlock →
      OSl B w' v' (insF fs fs.length f) ∧ Below B w w' ∧ w.grownBy w' (Value.slice va fs.length cap).ownBlock := by
    intro v' w' hown' hgr
    refine ⟨?_, grown_own (Below.refl _ _) hgr hB ho, hgr⟩
    unfold OSl
    rw [insF_len, insF_flat, List.drop_length, List.take_of_length_le (by rw [flat_len]; exact Nat.le_refl _)]
    simpa [flat] using hown'
  have FIN := Lib.hid fin
  clear fin
  rcases Nat.lt_or_ge fs.length cap with hce | hce
  · go_enter Try.func30, Try.ntmps30
    go_wp2_with (at_builtin; refine wpList_append_own _ rfl (.tmp 23) (.tmp 24) 23 rfl B 31 i0 (.agg (FV0 0 0 0).arr) 38 96 Try.und23 hi hz0 hz1 hz2 (FV.sz _) (by decide) _ _ _ rfl ho ⟨vb, 0, none⟩ 1 1 f.cells rfl f.len hat f.one ?c3 ?c4 ?c5 ?_)
    case c3 => simp only [maxLen]; omega
    case c4 => omega
    all_goals try (first | exact hB | trivial)
    intro v' w' hown' hgr _
    have R := FIN.out v' w' hown' hgr
    clear hown' hgr
    go_wp2
    go_ret
    exact ⟨v', rfl, R⟩
  · obtain rfl : cap = fs.length := by omega
    go_enter Try.func30, Try.ntmps30
    go_wp2_with (at_builtin; refine wpList_append_own _ rfl (.tmp 23) (.tmp 24) 23 rfl B 31 i0 (.agg (FV0 0 0 0).arr) 38 96 Try.und23 hi hz0 hz1 hz2 (FV.sz _) (by decide) _ _ _ rfl ho ⟨vb, 0, none⟩ 1 1 f.cells rfl f.len hat f.one ?d3 ?d4 ?d5 ?_)
    case d3 => simp only [maxLen]; omega
    case d4 => omega
    all_goals try (first | exact hB | trivial)
    intro v' w' hown' hgr _
    have R := FIN.out v' w' hown' hgr
    clear hown' hgr
    go_wp2
    go_ret
    exact ⟨v', rfl, R⟩

theorem row_osl {B : Nat} {w : World} {g c n : Nat} {cur : List Value} {fs : List FV} (h : Row w g cur) (hl : cur.length = c * 38) (hn : fs.length = n) (hnc : n ≤ c) (hm : c ≤ maxLen) (ht : cur.take (n * 38) = flat fs) (hB : B ≤ g) :
    OSl B w (.slice (some ⟨g, 0, none⟩) n c) fs := by
  subst hn
  exact ⟨flat_len fs, .inr ⟨g, c, cur.toArray, rfl, hB, h, hnc, hm, by simpa using hl, by simpa using ht⟩⟩
theorem osl_row {B : Nat} {w : World} {g c : Nat} {fs : List FV} (h : OSl B w (.slice (some ⟨g, 0, none⟩) fs.length c) fs) : ∃ cur, Row w g cur ∧ cur.length = c * 38 ∧ cur.take (fs.length * 38) = flat fs := by
  obtain ⟨h1, h2⟩ := h
  rcases h2 with ⟨h2, _⟩ | ⟨g', c', cur, e, hb, hg, hn, hm, hs, ht⟩
  · cases h2
  · cases e
    exact ⟨cur.toList, by simpa [Row] using hg, by simpa using hs, ht⟩
theorem gb_new {w w1 w2 : World} {r : Option Nat} {k : Nat} (h : w.grownBy w1 r) (h2 : w1.grownBy w2 (some k)) (hk : w.heap.size ≤ k) : w.grownBy w2 r :=
  ⟨h2.os.trans h.os, h2.tape.trans h.tape, h2.output.trans h.output, Nat.le_trans h.size h2.size, fun j hj hne => (h2.block j (Nat.lt_of_lt_of_le hj h.size) (fun e => by cases e; omega)).trans (h.block j hj hne)⟩
theorem gb_below {w w' : World} {B : Nat} (h : w.grownBy w' none) (hB : B ≤ w.heap.size) : Below B w w' :=
  ⟨h.os, h.tape, h.output, h.size, fun k hk => h.block k (by omega) (by simp)⟩
theorem At.gb {w w' : World} {a : Addr} {cs : List Value} {r : Option Nat} (h : At w a cs) (hg : w.grownBy w' r) (hne : r ≠ some a.block) : At w' a cs := by
  by_cases hn : cs = []
  · subst hn; intro j v hv; cases hv
  · exact h.same (hg.block _ (h.lt hn) (fun e => hne e.symm))

set_option maxHeartbeats 3200000 in
/-- in the middle, with no room -/
theorem insert_grow (B : Nat) (g cap : Nat) (fs : List FV) (i : Nat) (f : FV) (vb : Nat) (w : World) (ho : OSl B w (.slice (some ⟨g, 0, none⟩) fs.length cap) fs) (hi : i < fs.length) (hc : cap < fs.length + 1)
    (hv : FBlk w vb f) (hl : fs.length ≤ 1000) (hB : B ≤ w.heap.size) :
    Calls Try.prog 30 #[.slice (some ⟨g, 0, none⟩) fs.length cap, .int .i64 i, .slice (some ⟨vb, 0, none⟩) 1 1] w fun r w' => ∃ v', r = .returned v' ∧ OSl B w' v' (insF fs i f) ∧ Below B w w' ∧ w.grownBy w' none := by
  obtain ⟨_, hn2, hn3, hn4⟩ := ho.fsl.len
  have hcs := World.ownsRow.cells (g := g) ho rfl
  have hatT : At w ⟨g, 0, none⟩ (flat (fs.take i)) := by
    rw [flat_take]; intro j u hu; rw [List.getElem?_take] at hu; split at hu; exact hcs j u hu; cases hu
  have hneq : ((i : Int) == (fs.length : Int)) = false := by simp; omega
  go_enter Try.func30, Try.ntmps30
  go_wp2_with (at_builtin; refine wpList_appendz23 rfl (.tmp 34) (.tmp 39) rfl ⟨g, 0, none⟩ i cap (fs.length + 1 - i) _ rfl rfl ?c1 (flat (fs.take i)) ?c2 hatT ?c3 ?c4 ?c5 ?_)
  case c1 => omega
  case c2 => rw [flat_len, List.length_take, Nat.min_eq_left (by omega)]
  case c3 => omega
  case c4 => omega
  case c5 => omega
  intro c Zs w1 hc1 hc2 hZ hrow hgr
  rw [show i + (fs.length + 1 - i) = fs.length + 1 by omega]
  have hne : fs.length + 1 ≤ c := by omega
  have hTl : (flat (fs.take i)).length = i * 38 := by rw [flat_len, List.length_take, Nat.min_eq_left (by omega)]
  have hvb := hv.lt
  have hv1 := hv.gb hgr (by simp)
  have hat1 := hv1.at
  have hcur : (flat (fs.take i) ++ Zs).length = c * 38 := by rw [List.length_append, hTl, hZ, ← Nat.add_mul]; congr 1; omega
  have HCUR := Lib.hid hcur
  clear hcur hTl hZ
  go_wp2_with (refine wpList_copy23 rfl (.tmp 43) (.tmp 44) rfl w.heap.size (i * 38) (fs.length + 1 - i) (c - i) ⟨vb, 0, none⟩ 1 1 rfl rfl (flat (fs.take i) ++ Zs) f.cells hrow ?d1 hat1 ?d2 f.one ?_)
  case d1 => rw [f.len, Nat.min_eq_left (by omega)]
  case d2 => rw [f.len, HCUR.out]; omega
  intro w2 hrow2 hgr2
  have hglt := ho.lt g rfl
  have hatD : At w2.drew ⟨g, i * 38, none⟩ (flat (fs.drop i)) := by
    have h0 : At w ⟨g, i * 38, none⟩ (flat (fs.drop i)) := by
      rw [flat_drop]; intro j u hu; rw [List.getElem?_drop] at hu; have := hcs _ u hu; rw [add_mk] at this ⊢; simpa using this
    have h2 : At w2 ⟨g, i * 38, none⟩ (flat (fs.drop i)) := (h0.gb hgr (by simp)).gb hgr2 (by simp; omega)
    exact h2
  have hrow3 : Row w2.drew w.heap.size (splice (flat (fs.take i) ++ Zs) (i * 38) f.cells) := hrow2
  have hlen1 : (splice (flat (fs.take i) ++ Zs) (i * 38) f.cells).length = c * 38 := by rw [length_splice _ _ _ (by rw [f.len, HCUR.out]; omega), HCUR.out]
  have hdl : (flat (fs.drop i)).length = (fs.length - i) * 38 := by rw [flat_len, List.length_drop]
  have HL1 := Lib.hid hlen1
  have HDL := Lib.hid hdl
  clear hlen1 hdl hrow2
  go_wp2_with fail
  have hw1 : IntKind.i64.wrap ((i : Int) + 1) = (i : Int) + 1 := by rw [IntKind.wrap_i64]; omega
  have hb1 : (0 : Int) ≤ (i : Int) + 1 := by omega
  have htn : ((i : Int) + 1).toNat = i + 1 := by omega
  have hb2 : ¬ (c = i + 1) := by omega
  have hb3 : (i : Int) + 1 ≤ (fs.length : Int) + 1 := by omega
  have hb4 : ¬ (cap = i) := by omega
  have hb5 : (i : Int) ≤ (fs.length : Int) := by omega
  have hb6 : i ≤ fs.length := by omega
  go_still_tail 8, (by kernel_rfl)
  change wpList _ _ _ _ _ w2.drew
  go_wp2_with (refine wpList_copy23 rfl (.tmp 50) (.tmp 53) rfl w.heap.size ((i + 1) * 38) (fs.length - i) (c - (i + 1)) ⟨g, i * 38, none⟩ (fs.length - i) (cap - i) rfl rfl _ (flat (fs.drop i)) hrow3 ?e1 hatD ?e2 (flat_one' _) ?_)
  case e1 => rw [HDL.out, Nat.min_self]
  case e2 => rw [HDL.out, HL1.out]; omega
  intro w4 hrow4 hgr4
  have hgr5 : w2.grownBy w4 (some w.heap.size) := ⟨hgr4.os, hgr4.tape, hgr4.output, hgr4.size, hgr4.block⟩
  have R : OSl B w4 (.slice (some ⟨w.heap.size, 0, none⟩) (fs.length + 1) c) (insF fs i f) ∧ w.grownBy w4 none := by
    refine ⟨row_osl hrow4 ?_ (insF_len fs i f) hne hc2 ?_ hB, gb_new (gb_new hgr hgr2 (Nat.le_refl _)) hgr5 (Nat.le_refl _)⟩
    · rw [length_splice _ _ _ (by rw [HDL.out, HL1.out]; omega), HL1.out]
    · rw [insF_flat, ins_list2 _ _ _ i fs.length f.len HDL.out (by omega) (by rw [HCUR.out]; omega)]
      congr 2
      rw [List.take_append_of_le_length (by rw [flat_len, List.length_take]; omega), ← flat_take, ← flat_take, List.take_take, Nat.min_self]
  clear hgr hgr2 hgr4 hgr5 hrow hrow3 hrow4
  go_wp2
  go_ret
  exact ⟨_, rfl, R.1, gb_below R.2 hB, R.2⟩

set_option maxHeartbeats 3200000 in
/-- in the middle, in place -/
theorem insert_shift (B : Nat) (g cap : Nat) (fs : List FV) (i : Nat) (f : FV) (vb : Nat) (w : World) (ho : OSl B w (.slice (some ⟨g, 0, none⟩) fs.length cap) fs) (hi : i < fs.length) (hc : fs.length + 1 ≤ cap)
    (hv : FBlk w vb f) (hvg : vb ≠ g) (hl : fs.length ≤ 1000) :
    Calls Try.prog 30 #[.slice (some ⟨g, 0, none⟩) fs.length cap, .int .i64 i, .slice (some ⟨vb, 0, none⟩) 1 1] w fun r w' => ∃ v', r = .returned v' ∧ OSl B w' v' (insF fs i f) ∧ Below B w w' ∧ w.grownBy w' (some g) := by
  obtain ⟨_, hn2, hn3, hn4⟩ := ho.fsl.len
  have hcs := World.ownsRow.cells (g := g) ho rfl
  obtain ⟨hglt, hgsz⟩ := ho.lt g rfl
  obtain ⟨cur, hrow, hcur, htk⟩ := osl_row ho
  have hneq : ((i : Int) == (fs.length : Int)) = false := by simp; omega
  have hatD : At w.drew ⟨g, i * 38, none⟩ (flat (fs.drop i)) := by
    have h0 : At w ⟨g, i * 38, none⟩ (flat (fs.drop i)) := by
      rw [flat_drop]; intro j u hu; rw [List.getElem?_drop] at hu; have := hcs _ u hu; rw [add_mk] at this ⊢; simpa using this
    exact h0
  have hov : ∀ lb cb, (callFunc 45 #[.slice (some ⟨vb, 0, none⟩) 1 1, .slice (some ⟨g, (i + 1) * 38, none⟩) lb cb]).run Try.prog w = .ok (.value (.bool false)) w := fun lb cb =>
    overlaps_no w vb g _ 1 1 lb cb f cur hv hrow hvg (by intro h; rw [h] at hcur; simp at hcur; omega)
  have hdl : (flat (fs.drop i)).length = (fs.length - i) * 38 := by rw [flat_len, List.length_drop]
  have HDL := Lib.hid hdl
  have HCUR := Lib.hid hcur
  have HTK := Lib.hid htk
  have hrow3 : Row w.drew g cur := hrow
  clear hdl hcur htk hcs
  have hw1 : IntKind.i64.wrap ((i : Int) + 1) = (i : Int) + 1 := by rw [IntKind.wrap_i64]; omega
  have hb1 : (0 : Int) ≤ (i : Int) + 1 := by omega
  have htn : ((i : Int) + 1).toNat = i + 1 := by omega
  have hb2 : ¬ (cap = i + 1) := by omega
  have hb3 : (i : Int) + 1 ≤ (fs.length : Int) + 1 := by omega
  have hb4 : ¬ (cap = i) := by omega
  have hb5 : (i : Int) ≤ (fs.length : Int) + 1 := by omega
  have hb6 : i ≤ fs.length + 1 := by omega
  go_enter Try.func30, Try.ntmps30
  go_wp2_with (simp only [hov])
  go_still_tail 8, (by kernel_rfl)
  change wpList _ _ _ _ _ w.drew
  go_wp2_with (refine wpList_copy23 rfl (.tmp 73) (.tmp 76) rfl g ((i + 1) * 38) (fs.length - i) (cap - (i + 1)) ⟨g, i * 38, none⟩ (fs.length + 1 - i) (cap - i) rfl rfl cur (flat (fs.drop i)) hrow3 ?e1 hatD ?e2 (flat_one' _) ?_)
  case e1 => rw [HDL.out, Nat.min_eq_right (by omega)]
  case e2 => rw [HDL.out, HCUR.out]; omega
  intro w4 hrow4 hgr4
  have hgr5 : w.grownBy w4 (some g) := ⟨hgr4.os, hgr4.tape, hgr4.output, hgr4.size, hgr4.block⟩
  have hat4 := (hv.gb hgr5 (by simp; omega)).at
  have hl4 : (splice cur ((i + 1) * 38) (flat (fs.drop i))).length = cap * 38 := by rw [length_splice _ _ _ (by rw [HDL.out, HCUR.out]; omega), HCUR.out]
  have HL4 := Lib.hid hl4
  clear hl4 hrow3 hrow hgr4
  go_wp2_with (refine wpList_copy23 rfl (.tmp 80) (.tmp 81) rfl g (i * 38) (fs.length + 1 - i) (cap - i) ⟨vb, 0, none⟩ 1 1 rfl rfl _ f.cells hrow4 ?g1 hat4 ?g2 f.one ?_)
  case g1 => rw [f.len, Nat.min_eq_left (by omega)]
  case g2 => rw [f.len, HL4.out]; omega
  intro w6 hrow6 hgr6
  have hgr7 : w.grownBy w6 (some g) := ⟨hgr6.os.trans hgr5.os, hgr6.tape.trans hgr5.tape, hgr6.output.trans hgr5.output, Nat.le_trans hgr5.size hgr6.size, fun j hj hne => (hgr6.block j (Nat.lt_of_lt_of_le hj hgr5.size) hne).trans (hgr5.block j hj hne)⟩
  have R : OSl B w6 (.slice (some ⟨g, 0, none⟩) (fs.length + 1) cap) (insF fs i f) := by
    refine row_osl hrow6 ?_ (insF_len fs i f) hc hn3 ?_ hglt
    · rw [length_splice _ _ _ (by rw [f.len, HL4.out]; omega), HL4.out]
    · rw [insF_flat, ins_list1 _ _ _ i fs.length f.len HDL.out (by omega) (by rw [HCUR.out]; omega)]
      congr 2
      rw [← HTK.out, List.take_take, Nat.min_eq_left (by omega)]
  have R2 : Below B w w6 := ⟨hgr7.os, hgr7.tape, hgr7.output, hgr7.size, fun k hk => hgr7.block k (by omega) (by simp; omega)⟩
  clear hgr5 hgr6 hrow4 hrow6
  go_wp2
  go_ret
  exact ⟨_, rfl, R, R2, hgr7⟩

/-- slices.Insert of one fact. -/
theorem insert_any (B : Nat) (v : Value) (fs : List FV) (i : Nat) (f : FV) (vb : Nat) (w : World) (ho : OSl B w v fs) (hi : i ≤ fs.length)
    (hv : FBlk w vb f) (hvg : v.ownBlock ≠ some vb) (hl : fs.length ≤ 1000) (hB : B ≤ w.heap.size) :
    Calls Try.prog 30 #[v, .int .i64 i, .slice (some ⟨vb, 0, none⟩) 1 1] w fun r w' => ∃ v', r = .returned v' ∧ OSl B w' v' (insF fs i f) ∧ Below B w w' ∧ (w.grownBy w' v.ownBlock ∨ w.grownBy w' none) := by
  rcases Nat.lt_or_ge i fs.length with h | h
  · have ho' := ho
    obtain ⟨h1, h2⟩ := ho'
    rcases h2 with ⟨_, h2⟩ | ⟨g, cap, cur, rfl, hb, hg, hn, hm, hs, ht⟩
    · omega
    · rcases Nat.lt_or_ge cap (fs.length + 1) with hc | hc
      · exact (insert_grow B g cap fs i f vb w ho h hc hv hl hB).mono fun e w' ⟨v', a, b, c, d⟩ => ⟨v', a, b, c, .inr d⟩
      · exact (insert_shift B g cap fs i f vb w ho h hc hv (fun e => hvg (by simp [Value.ownBlock, e])) hl).mono fun e w' ⟨v', a, b, c, d⟩ => ⟨v', a, b, c, .inl d⟩
  · obtain rfl : i = fs.length := by omega
    exact (insert_end B v fs f vb w ho hv hl hB).mono fun e w' ⟨v', a, b, c, d⟩ => ⟨v', a, b, c, .inl d⟩

end Go.Proofs.Ytchfoioahgfjdaa
