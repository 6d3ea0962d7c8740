/- lattice.Add. -/
import Derived.Test.YtchfoioahgfjdaaIns
import Derived.Deep.RegionWith
namespace Go.Proofs.Ytchfoioahgfjdaa
open Go.RowKit

def posI (fs : List FV) (f : FV) : Int := idxF (fun x : FV => !(ltF x f)) fs
def posF (fs : List FV) (f : FV) : Nat := if posI fs f < 0 then fs.length else (posI fs f).toNat
theorem posF_le (fs : List FV) (f : FV) : posF fs f ≤ fs.length := by
  have := idxF_bd (fun x : FV => !(ltF x f)) fs
  unfold posF posI
  split <;> omega

def addErr (nodes : Int) (fs : List FV) (f : FV) : Int :=
  if okF nodes f then (if hasF fs f.kind f.epoch f.node then 0 else if 200 ≤ fs.length then 110 else 0) else 100
def addable (nodes : Int) (fs : List FV) (f : FV) : Bool := okF nodes f && !(hasF fs f.kind f.epoch f.node) && decide (fs.length < 200)

set_option maxHeartbeats 1600000 in
theorem add_bad (nodes : Int) (va : Option Addr) (n cap : Nat) (fs : List FV) (f : FV) (w : World) (h : FSl w (.slice va n cap) fs) (hl : fs.length ≤ 1000) (hok : okF nodes f = false) :
    Calls Try.prog 17 #[.int .i64 nodes, .slice va n cap, .agg f.arr] w fun r w' => ∃ v', r = .returned (.tuple #[v', .int .i64 100]) ∧ OSl w.heap.size w' v' fs ∧ Below w.heap.size w w' := by
  have HOK := Lib.hid hok
  clear hok
  go_enter Try.func17, Try.ntmps17
  go_wp2_with fail
  refine (fcheck_any nodes f _).mono ?_
  rintro e w1 ⟨rfl, hb1⟩
  rw [HOK.out, errOf_f]
  have hbel : Below w.heap.size w w1 := (Below.refl _ _ |>.al _).trans (hb1.mono (by simp))
  go_wp2_with fail
  refine (clone_any _ fs w1 (h.below hbel (Nat.le_refl _)) (by omega)).mono ?_
  rintro e w2 ⟨v', rfl, hown, hb2⟩
  go_wp2
  go_ret2
  exact ⟨v', rfl, hown.mono hbel.size, hbel.trans (hb2.mono hbel.size)⟩

set_option maxHeartbeats 1600000 in
theorem add_has (nodes : Int) (va : Option Addr) (n cap : Nat) (fs : List FV) (f : FV) (w : World) (h : FSl w (.slice va n cap) fs) (hl : fs.length ≤ 1000) (hok : okF nodes f = true) (hhas : hasF fs f.kind f.epoch f.node = true) :
    Calls Try.prog 17 #[.int .i64 nodes, .slice va n cap, .agg f.arr] w fun r w' => ∃ v', r = .returned (.tuple #[v', .int .i64 0]) ∧ OSl w.heap.size w' v' fs ∧ Below w.heap.size w w' := by
  have HOK := Lib.hid hok
  have HH := Lib.hid hhas
  clear hok hhas
  go_enter Try.func17, Try.ntmps17
  go_wp2_with fail
  refine (fcheck_any nodes f _).mono ?_
  rintro e w1 ⟨rfl, hb1⟩
  rw [HOK.out, errOf_t]
  have hbel : Below w.heap.size w w1 := (Below.refl _ _ |>.al _).trans (hb1.mono (by simp))
  have hblk := (FBlk.new w f).below hb1 (by simp)
  have hc0 : w1.cell? ⟨w.heap.size, 0, none⟩ = some (.int .i64 f.kind) := by rw [hblk.cell]; simp [FV.arr, FV.cells]
  have hc1 := FV.ep hblk
  have hc2 := FV.nd hblk
  go_wp2_with fail
  refine (has_any va n cap fs _ _ _ w1 (h.below hbel (Nat.le_refl _)) (by omega)).mono ?_
  rintro e w2 ⟨rfl, hb2⟩
  rw [HH.out]
  have hbel2 : Below w.heap.size w w2 := hbel.trans (hb2.mono hbel.size)
  go_wp2_with fail
  refine (clone_any _ fs w2 (h.below hbel2 (Nat.le_refl _)) (by omega)).mono ?_
  rintro e w3 ⟨v', rfl, hown, hb3⟩
  go_wp2
  go_ret2
  exact ⟨v', rfl, hown.mono hbel2.size, hbel2.trans (hb3.mono hbel2.size)⟩

set_option maxHeartbeats 1600000 in
theorem add_full (nodes : Int) (va : Option Addr) (n cap : Nat) (fs : List FV) (f : FV) (w : World) (h : FSl w (.slice va n cap) fs) (hl : fs.length ≤ 1000) (hok : okF nodes f = true) (hhas : hasF fs f.kind f.epoch f.node = false) (hfull : 200 ≤ fs.length) :
    Calls Try.prog 17 #[.int .i64 nodes, .slice va n cap, .agg f.arr] w fun r w' => ∃ v', r = .returned (.tuple #[v', .int .i64 110]) ∧ OSl w.heap.size w' v' fs ∧ Below w.heap.size w w' := by
  have HOK := Lib.hid hok
  have HH := Lib.hid hhas
  obtain ⟨rfl, _, _, _⟩ := h.len
  have hful : (200 : Int) ≤ (fs.length : Int) := by omega
  have hl' : fs.length ≤ 100000 := by omega
  have HL' := Lib.hid hl'
  clear hok hhas hfull hl hl'
  go_enter Try.func17, Try.ntmps17
  go_wp2_with fail
  refine (fcheck_any nodes f _).mono ?_
  rintro e w1 ⟨rfl, hb1⟩
  rw [HOK.out, errOf_t]
  have hbel : Below w.heap.size w w1 := (Below.refl _ _ |>.al _).trans (hb1.mono (by simp))
  have hblk := (FBlk.new w f).below hb1 (by simp)
  have hc0 : w1.cell? ⟨w.heap.size, 0, none⟩ = some (.int .i64 f.kind) := by rw [hblk.cell]; simp [FV.arr, FV.cells]
  have hc1 := FV.ep hblk
  have hc2 := FV.nd hblk
  go_wp2_with fail
  refine (has_any va _ cap fs _ _ _ w1 (h.below hbel (Nat.le_refl _)) HL'.out).mono ?_
  rintro e w2 ⟨rfl, hb2⟩
  rw [HH.out]
  have hbel2 : Below w.heap.size w w2 := hbel.trans (hb2.mono hbel.size)
  go_wp2_with fail
  refine (clone_any _ fs w2 (h.below hbel2 (Nat.le_refl _)) HL'.out).mono ?_
  rintro e w3 ⟨v', rfl, hown, hb3⟩
  go_wp2
  go_ret2
  exact ⟨v', rfl, hown.mono hbel2.size, hbel2.trans (hb3.mono hbel2.size)⟩

theorem MRd.gb {w w' : World} {m : MV} {bs : List Int} {r : Option Nat} (h : MRd w m bs) (hg : w.grownBy w' r) (hne : ∀ a, m.ca = some a → r ≠ some a.block) : MRd w' m bs := by
  obtain ⟨h0, h1, h2, h3, h4⟩ := h
  exact ⟨h0, h1, h2, h3, fun a ha => ⟨(h4 a ha).1, (h4 a ha).2.gb hg (hne a ha)⟩⟩

theorem add_end {w w3 wc wo wi : World} {vc v' : Value} {fs gs : List FV} {m : MV} {bs : List Int} {o : Obj} (hbel3 : Below w.heap.size w w3) (hbW : Below w3.heap.size w3 wc) (hbo : Below wc.heap.size wc wo)
    (hoc : OSl w3.heap.size wc vc fs) (hmo : MRd wo m bs) (hnew : ∀ x, m.ca = some x → wc.heap.size ≤ x.block) (hoi : OSl w3.heap.size wi v' gs) (hbi : Below w3.heap.size (wo.alloc o) wi)
    (hgi : (wo.alloc o).grownBy wi vc.ownBlock ∨ (wo.alloc o).grownBy wi none) : OSl w.heap.size wi v' gs ∧ MRd wi m bs ∧ (∀ x, m.ca = some x → w.heap.size ≤ x.block) ∧ Below w.heap.size w wi := by
  have s3 := hbel3.size
  have sc := hbW.size
  have so := hbo.size
  have hm2 : MRd (wo.alloc o) m bs := hmo.below ((Below.refl _ wo).al o) (Nat.le_refl _)
  refine ⟨hoi.mono s3, ?_, fun x hx => by have := hnew x hx; omega, ?_⟩
  · rcases hgi with hg | hg
    · exact hm2.gb hg fun a ha e => by have := hnew a ha; have := (hoc.lt _ e).2; omega
    · exact hm2.gb hg fun a ha e => by cases e
  · have h1 : Below w.heap.size w (wo.alloc o) := (hbel3.trans ((hbW.mono s3).trans (hbo.mono (by omega)))).al o
    exact h1.trans (hbi.mono s3)

set_option maxHeartbeats 3200000 in
theorem add_new (nodes : Int) (va : Option Addr) (n cap : Nat) (fs : List FV) (f : FV) (bs : List Int) (w : World) (h : FSl w (.slice va n cap) fs) (hm : MRd w f.m bs) (hcl : f.m.cl ≤ 100000) (hok : okF nodes f = true) (hhas : hasF fs f.kind f.epoch f.node = false) (hfull : fs.length < 200) :
    Calls Try.prog 17 #[.int .i64 nodes, .slice va n cap, .agg f.arr] w fun r w' => ∃ v' a c, r = .returned (.tuple #[v', .int .i64 0]) ∧ OSl w.heap.size w' v' (insF fs (posF fs f) (f.withC a f.m.cl c)) ∧ MRd w' (f.m.withC a f.m.cl c) bs ∧
      (∀ x, a = some x → w.heap.size ≤ x.block) ∧ Below w.heap.size w w' := by
  have HOK := Lib.hid hok
  have HH := Lib.hid hhas
  obtain ⟨rfl, hn2, hn3, hn4⟩ := h.len
  have hful : decide ((200 : Int) ≤ (fs.length : Int)) = false := by simp; omega
  have hpl := posF_le fs f
  have HPL := Lib.hid hpl
  have hl' : fs.length ≤ 1000 := by omega
  have HL' := Lib.hid hl'
  clear hfull hl'
  have hbd := idxF_bd (fun x : FV => !(ltF x f)) fs
  have HBD := Lib.hid hbd
  clear hok hhas hbd hpl
  go_enter Try.func17, Try.ntmps17
  go_wp2_with fail
  refine (fcheck_any nodes f _).mono ?_
  rintro e w1 ⟨rfl, hb1⟩
  rw [HOK.out, errOf_t]
  have hbel : Below w.heap.size w w1 := (Below.refl _ _ |>.al _).trans (hb1.mono (by simp))
  have hblk := (FBlk.new w f).below hb1 (by simp)
  have hc0 : w1.cell? ⟨w.heap.size, 0, none⟩ = some (.int .i64 f.kind) := by rw [hblk.cell]; simp [FV.arr, FV.cells]
  have hc1 := FV.ep hblk
  have hc2 := FV.nd hblk
  go_wp2_with fail
  refine (has_any va _ cap fs _ _ _ w1 (h.below hbel (Nat.le_refl _)) (by have := HL'.out; omega)).mono ?_
  rintro e w2 ⟨rfl, hb2⟩
  rw [HH.out]
  have hbel2 : Below w.heap.size w w2 := hbel.trans (hb2.mono hbel.size)
  have hblk2 := hblk.below' hb2
  clear hc0 hc1 hc2
  go_wp2_with fail
  refine (index_add va _ cap fs w.heap.size f w2 (h.below hbel2 (Nat.le_refl _)) (by have := HL'.out; omega) hblk2).mono ?_
  rintro e w3 ⟨rfl, hb3⟩
  have hbel3 : Below w.heap.size w w3 := hbel2.trans (hb3.mono hbel2.size)
  have hblk3 := hblk2.below' hb3
  have hF3 := h.below hbel3 (Nat.le_refl _)
  have hM3 := hm.below hbel3 (Nat.le_refl _)
  have hsz := hbel3.size
  have hbd := HBD.out
  have hpl := HPL.out
  clear HBD HPL
  generalize hp : posF fs f = p at *
  have HP := Lib.hid hp
  have hpi : idxF (fun x : FV => !(ltF x f)) fs = posI fs f := rfl
  rw [hpi] at hbd ⊢
  have hp2 : (posI fs f < 0 ∧ p = fs.length) ∨ (0 ≤ posI fs f ∧ posI fs f = p) := by
    rw [← hp]; unfold posF; split <;> omega
  generalize posI fs f = t at *
  clear hp hpi
  have hsl := HL'.out
  have hld3 := hblk3.ld
  have hbd0 : Below w3.heap.size w3 w3.drew := (Below.refl _ _).drew
  have hldA : ∀ W', Below w3.heap.size w3 W' → (ld 31 (.pointer (some ⟨w.heap.size, 0, none⟩))).run Try.prog W' = .ok (.agg f.arr) W' := fun W' hb => (hblk3.below' hb).ld
  have hFd : FSl w3.drew (.slice va fs.length cap) fs := hF3
  have hl5 : fs.length ≤ 100000 := by omega
  have HL5 := Lib.hid hl5
  clear hl5 hblk3 hblk2 hblk hb1 hb2 hb3
  obtain ⟨ht, rfl⟩ | ⟨ht, rfl⟩ := hp2
  · clear hsl
    go_wp2_with fail
    go_region_with (first | (go_at_call 26; refine (clone_any _ fs _ hFd HL5.out).mono ?_; rintro e wc ⟨vc, rfl, hoc, hbc⟩; have hbW : Below w3.heap.size w3 wc := hbd0.trans hbc; have hMc : MRd wc f.m bs := hM3.below hbW (Nat.le_refl _)) | (go_at_call 31; refine (own_any f bs _ hMc hcl).mono ?_; rintro e wo ⟨a, c, rfl, hmo, hnew, hbo⟩; have hne : vc.ownBlock ≠ some wo.heap.size := (fun e => by have := (hoc.below hbo).lt _ e; omega); have hoc2 := (hoc.below hbo).alloc (.cells (f.withC a f.m.cl c).arr 31); have hszo := hbo.size; have hszc := hbW.size) | (go_at_call 30; refine (insert_any w3.heap.size vc fs fs.length (f.withC a f.m.cl c) wo.heap.size _ hoc2 (Nat.le_refl _) (FBlk.new _ _) hne HL'.out (by simp; omega)).mono ?_; rintro e wi ⟨v', rfl, hoi, hbi, hgi⟩))
    all_goals
      have R := add_end hbel3 hbW hbo hoc hmo hnew hoi hbi hgi
      clear hoc hoc2 hmo hnew hoi hbi hgi hbo hbW hbc hMc
      go_wp2
      go_ret2
      exact ⟨v', a, c, rfl, by rw [HP.out]; exact R.1, R.2.1, R.2.2.1, R.2.2.2⟩
  · clear hsl
    go_wp2_with fail
    go_region_with (first | (go_at_call 26; refine (clone_any _ fs _ hFd HL5.out).mono ?_; rintro e wc ⟨vc, rfl, hoc, hbc⟩; have hbW : Below w3.heap.size w3 wc := hbd0.trans hbc; have hMc : MRd wc f.m bs := hM3.below hbW (Nat.le_refl _)) | (go_at_call 31; refine (own_any f bs _ hMc hcl).mono ?_; rintro e wo ⟨a, c, rfl, hmo, hnew, hbo⟩; have hne : vc.ownBlock ≠ some wo.heap.size := (fun e => by have := (hoc.below hbo).lt _ e; omega); have hoc2 := (hoc.below hbo).alloc (.cells (f.withC a f.m.cl c).arr 31); have hszo := hbo.size; have hszc := hbW.size) | (go_at_call 30; refine (insert_any w3.heap.size vc fs p (f.withC a f.m.cl c) wo.heap.size _ hoc2 hpl (FBlk.new _ _) hne HL'.out (by simp; omega)).mono ?_; rintro e wi ⟨v', rfl, hoi, hbi, hgi⟩))
    all_goals
      have R := add_end hbel3 hbW hbo hoc hmo hnew hoi hbi hgi
      clear hoc hoc2 hmo hnew hoi hbi hgi hbo hbW hbc hMc
      go_wp2
      go_ret2
      exact ⟨v', a, c, rfl, by rw [HP.out]; exact R.1, R.2.1, R.2.2.1, R.2.2.2⟩

end Go.Proofs.Ytchfoioahgfjdaa
