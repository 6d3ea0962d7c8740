/- awake. -/
import Derived.Test.YtchfoioahgfjdaaMrg
namespace Go.Proofs.Ytchfoioahgfjdaa
open Go.RowKit

theorem filter_norm (p : FV → Bool) (hp : ∀ f, p (norm f) = p f) (fs : List FV) : (fs.map norm).filter p = (fs.filter p).map norm := by
  rw [List.filter_map]
  congr 1
  apply List.filter_congr
  intro f _
  exact hp f
theorem whoF_norm (fs : List FV) (k e : Int) : whoF (fs.map norm) k e = whoF fs k e := by
  unfold whoF
  rw [filter_norm _ (fun f => rfl), List.map_map]
  rfl
theorem whoF_n {fs gs : List FV} (h : fs.map norm = gs.map norm) (k e : Int) : whoF fs k e = whoF gs k e := by rw [← whoF_norm fs, h, whoF_norm]
theorem bestF_norm (fs : List FV) (mj : Int) (gs : List FV) (b : Int) : bestF (fs.map norm) mj (gs.map norm) b = bestF fs mj gs b := by
  induction gs generalizing b with
  | nil => rfl
  | cons g gs ih => simp only [List.map_cons, bestF, whoF_norm]; exact ih _
theorem bestF_n {fs gs : List FV} (h : fs.map norm = gs.map norm) (mj b : Int) : bestF fs mj (fs.filter fun f : FV => f.kind == 1) b = bestF gs mj (gs.filter fun f : FV => f.kind == 1) b := by
  rw [← bestF_norm fs, ← filter_norm _ (fun f => rfl), h, filter_norm _ (fun f => rfl), bestF_norm]
theorem nextF_norm (gs : List FV) (b : Int) : nextF (gs.map norm) b = nextF gs b := by
  induction gs generalizing b with
  | nil => rfl
  | cons g gs ih => simp only [List.map_cons, nextF]; exact ih _
theorem nextF_n {fs gs : List FV} (h : fs.map norm = gs.map norm) (b : Int) : nextF fs b = nextF gs b := by rw [← nextF_norm fs, h, nextF_norm]

theorem MRd0 (w : World) : MRd w MV0 [] := ⟨rfl, Nat.le_refl _, by simp [MV0], fun _ => rfl, fun a ha => by cases ha⟩
theorem FRd0 (w : World) (a b c : Int) : FRd w (FV0 a b c) (FV0 a b c, []) := ⟨rfl, MRd0 w⟩

def x1 : AF := (FV0 2 16 1, [])
def x2 : AF := (FV0 3 32 0, [])
theorem k1 : addErr 3 (heads []) x1.1 = 0 := by decide +kernel
theorem k2 : addX 3 [] x1 = [x1] := by unfold addX; rw [if_pos (by decide +kernel)]; rfl
theorem k3 : addErr 3 (heads [x1]) x1.1 = 0 := by decide +kernel
theorem k4 : addX 3 [x1] x1 = [x1] := by unfold addX; rw [if_neg (by decide +kernel)]
theorem k5 : addErr 3 (heads [x1]) (FV0 0 0 0) = 100 := by decide +kernel
theorem k6 : mergeX 3 [x1] [x2] = [x1, x2] := by
  show addX 3 [x1] x2 = _
  unfold addX; rw [if_pos (by decide +kernel)]
  have : posF (heads [x1]) x2.1 = 1 := by decide +kernel
  rw [this]; rfl
theorem k7 : whoF (heads [x1]) 2 16 = [1] := by decide +kernel
theorem k8 : hasF (heads [x1]) 2 16 1 = true := by decide +kernel
theorem k9 : hasF (heads [x1]) 2 16 0 = false := by decide +kernel
theorem k10 : bestF (heads [x1]) 2 ((heads [x1]).filter fun f : FV => f.kind == 1) 0 = 0 := by decide +kernel
theorem k11 : nextF (heads [x1, x2]) 1 = 3 := by decide +kernel
theorem k12 : (whoF (heads [x1, x2]) 3 32).length = 1 := by decide +kernel

theorem ISl.one {B : Nat} {w : World} {v : Value} {x : Int} (h : ISl B w v [x]) : ∃ g cap, v = .slice (some ⟨g, 0, none⟩) 1 cap ∧ w.cell? ⟨g, 0, none⟩ = some (.int .i64 x) := by
  have hcs := fun g hg => World.ownsRow.cells (g := g) h hg
  obtain ⟨_, h2⟩ := h
  rcases h2 with ⟨_, h0⟩ | ⟨g, cap, cur, rfl, _⟩
  · simp at h0
  · exact ⟨g, cap, rfl, by have := hcs g rfl 0 _ rfl; rwa [Addr.add_zero'] at this⟩
theorem _root_.Go.RowKit.Below.tr {w w1 w2 : World} (h : Below w.heap.size w w1) (k : Below w1.heap.size w1 w2) : Below w.heap.size w w2 := h.trans (k.mono h.size)
theorem FSl.one {w : World} {g : Nat} {f : FV} (h : FBlk w g f) : FSl w (.slice (some ⟨g, 0, none⟩) 1 1) [f] :=
  ⟨some ⟨g, 0, none⟩, 1, rfl, Nat.le_refl _, by unfold maxLen; omega, fun h => (by cases h), fun a ha => by cases ha; exact ⟨trivial, by rw [flat_one]; exact h.at⟩⟩
theorem OSl.fsl1 {B : Nat} {w : World} {va : Option Addr} {n cap : Nat} {fs : List FV} (h : OSl B w (.slice va fs.length cap) fs) (hn : fs.length = n) : FSl w (.slice va n cap) fs := by
  have := h.fsl; rwa [hn] at this

set_option maxHeartbeats 6400000 in
theorem awake_any (w : World) : Calls Try.prog 10 #[] w fun r w' => r = .returned (.bool true) ∧ Below w.heap.size w w' := by
  go_enter Try.func10, Try.ntmps10
  go_wp2_with fail
  refine (add_any 3 _ [] [] (FV0 2 16 1) x1 _ (FSl.nil _) trivial (FRd0 _ _ _ _) (by decide) (by decide)).mono ?_
  rintro e w1 ⟨va, as1, rfl, ho1, hL1, _, hb1⟩
  rw [k1]
  rw [k2] at hL1
  have hblk := (FBlk.new w (FV0 2 16 1)).below hb1 (by simp)
  have hbel1 : Below w.heap.size w w1 := (Below.refl _ _ |>.al _).trans (hb1.mono (by simp))
  have hl1 : as1.length = 1 := hL1.len
  obtain ⟨va1, cap1, rfl⟩ := ho1.shape
  have hf1 := ho1.fsl1 hl1
  rw [hl1]
  have hld := hblk.ld
  go_wp2_with fail
  refine (add_any 3 _ as1 [x1] (FV0 2 16 1) x1 _ hf1 hL1 (FRd0 _ _ _ _) (by decide) (by rw [hl1]; decide)).mono ?_
  rintro e w2 ⟨vb, as2, rfl, ho2, hL2, _, hb2⟩
  rw [k3]
  rw [k4] at hL2
  have hbel2 : Below w.heap.size w w2 := hbel1.trans (hb2.mono hbel1.size)
  obtain ⟨va2, cap2, rfl⟩ := ho2.shape
  have hl2 : as2.length = 1 := hL2.len
  have hf2 := ho2.fsl1 hl2
  have N2 := Lib.hid hL2.norm
  have hle2 : as2.length ≤ 100000 := by omega
  have HL2 := Lib.hid hL2
  rw [hl2]
  clear hld hl1 hL2
  go_wp2_with fail
  refine (who_any va2 1 cap2 as2 2 16 w2 hf2 hle2).mono ?_
  rintro e w3 ⟨vw, rfl, hw3, hb3⟩
  rw [show whoF as2 2 16 = [1] from (whoF_n N2.out 2 16).trans k7] at hw3
  obtain ⟨gw, cw, rfl, hcw⟩ := hw3.one
  have hbel3 : Below w.heap.size w w3 := hbel2.trans (hb3.mono hbel2.size)
  have hf3 := hf2.below hb3 (Nat.le_refl _)
  have hL3 := HL2.out.below hb3 (Nat.le_refl _)
  clear hw3
  go_wp2_with fail
  refine (add_any 3 _ as2 [x1] (FV0 0 0 0) (FV0 0 0 0, []) w3 hf3 hL3 (FRd0 _ _ _ _) (by decide) (by omega)).mono ?_
  rintro e w4 ⟨vd, as4, rfl, _, _, _, hb4⟩
  rw [k5]
  have hbel4 : Below w.heap.size w w4 := hbel3.trans (hb4.mono hbel3.size)
  clear hL3
  go_wp2_with fail
  have hb14 : Below w1.heap.size w1 (w4.alloc (.cells (FV0 3 32 0).arr 31)) := (hb2.tr (hb3.tr hb4)).al _
  refine (merge_any 3 (.slice va1 1 cap1) as1 [x1] (some ⟨w4.heap.size, 0, none⟩) 1 1 [FV0 3 32 0] [x2] _ (hf1.below hb14 (Nat.le_refl _)) (hL1.below hb14 (Nat.le_refl _)) (FSl.one (FBlk.new w4 _)) ⟨FRd0 _ _ _ _, trivial⟩
    (by intro f hf; simp at hf; subst hf; decide) (by have := hL1.len; simp at this; omega) (by decide)).mono ?_
  rintro e w5 ⟨vm, as5, rfl, ho5, hL5, _, hb5⟩
  rw [k6] at hL5
  obtain ⟨va5, cap5, rfl⟩ := ho5.shape
  have hl5 : as5.length = 2 := hL5.len
  have hf5 := ho5.fsl1 hl5
  have N5 := Lib.hid hL5.norm
  rw [hl5]
  have hb45 : Below w4.heap.size w4 w5 := ((Below.refl _ w4).al _).tr hb5
  have hbel5 : Below w.heap.size w w5 := hbel4.tr hb45
  have hf25 : FSl w5 (.slice va2 1 cap2) as2 := (hf3.below (hb4.tr hb45) (Nat.le_refl _))
  have hcw5 : w5.cell? ⟨gw, 0, none⟩ = some (.int .i64 1) := ((hb4.tr hb45).cell (block_lt_of_cell hcw)).trans hcw
  have hle5 : as5.length ≤ 100000 := by omega
  clear hb14 hL1 hL5 ho5 ho1 hcw hf2 hf3 hb2 hb3 hb4 hb5 hb1
  go_wp2_with fail
  refine (has_any va2 1 cap2 as2 2 16 1 w5 hf25 hle2).mono ?_
  rintro e w6 ⟨rfl, hb6⟩
  rw [show hasF as2 2 16 1 = true from (hasF_n N2.out 2 16 1).trans k8]
  go_wp2_with fail
  refine (has_any va2 1 cap2 as2 2 16 0 w6 (hf25.below hb6 (Nat.le_refl _)) hle2).mono ?_
  rintro e w7 ⟨rfl, hb7⟩
  rw [show hasF as2 2 16 0 = false from (hasF_n N2.out 2 16 0).trans k9]
  have hb57 := hb6.tr hb7
  go_wp2_with fail
  refine (best_any va2 1 cap2 as2 2 w7 (hf25.below hb57 (Nat.le_refl _)) hle2).mono ?_
  rintro e w8 ⟨rfl, hb8⟩
  rw [show bestF as2 2 (as2.filter fun f : FV => f.kind == 1) 0 = 0 from (bestF_n N2.out 2 0).trans k10]
  have hb58 := hb57.tr hb8
  go_wp2_with fail
  refine (next_any va5 2 cap5 as5 w8 (hf5.below hb58 (Nat.le_refl _)) hle5).mono ?_
  rintro e w9 ⟨rfl, hb9⟩
  rw [show nextF as5 1 = 3 from (nextF_n N5.out 1).trans k11]
  have hb59 := hb58.tr hb9
  go_wp2_with fail
  refine (next_any none 0 0 [] w9 (FSl.nil _) (by decide)).mono ?_
  rintro e w10 ⟨rfl, hb10⟩
  rw [show nextF [] 1 = 1 from rfl]
  have hb510 := hb59.tr hb10
  go_wp2_with fail
  refine (aborted_any va5 2 cap5 as5 32 1 w10 (hf5.below hb510 (Nat.le_refl _)) hle5).mono ?_
  rintro e w11 ⟨rfl, hb11⟩
  rw [show decide ((1 : Int) ≤ ((whoF as5 3 32).length : Int)) = true by rw [whoF_n N5.out 3 32]; decide +kernel]
  have hb511 := hb510.tr hb11
  go_wp2_with fail
  refine (aborted_any va5 2 cap5 as5 32 2 w11 (hf5.below hb511 (Nat.le_refl _)) hle5).mono ?_
  rintro e w12 ⟨rfl, hb12⟩
  rw [show decide ((2 : Int) ≤ ((whoF as5 3 32).length : Int)) = false by rw [whoF_n N5.out 3 32]; decide +kernel]
  have hb512 := hb511.tr hb12
  go_wp2
  go_ret
  exact ⟨rfl, hbel5.tr hb512⟩

end Go.Proofs.Ytchfoioahgfjdaa
