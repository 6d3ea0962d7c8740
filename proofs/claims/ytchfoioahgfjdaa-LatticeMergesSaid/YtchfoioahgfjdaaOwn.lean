/- lattice.own: a fact in memory of its own. -/
import Derived.Test.YtchfoioahgfjdaaSl
import Derived.Laws.CopyOwn
namespace Go.Proofs.Ytchfoioahgfjdaa
open Go.RowKit

/-- A block is the fact f. -/
def FBlk (w : World) (g : Nat) (f : FV) : Prop := w.heap[g]? = some (.cells f.arr 31 (0, 0))

theorem run_st31 (w : World) (g : Nat) (cur : Array Value) (hg : w.heap[g]? = some (.cells cur 31 (0, 0))) (hc : cur.size = 38) (f : FV) :
    (st 31 (.pointer (some ⟨g, 0, none⟩)) (.agg f.arr)).run Try.prog w = .ok () (w.setRow g f.arr) := by
  have h := run_storeCells_at (P := Try.prog) g 0 31 f.cells 0 cur w hg (by rw [f.len, hc]; omega) f.one
  have e : (cur.toList.take (0 + 0) ++ f.cells ++ cur.toList.drop (0 + 0 + f.cells.length)).toArray = f.arr := by
    have : cur.toList.drop 38 = [] := List.drop_of_length_le (by simp [hc])
    simp [f.len, this, FV.arr]
  rw [e] at h
  have hs : f.arr.size = 38 := f.sz
  have htl : f.arr.toList = f.cells := by simp [FV.arr]
  unfold st Instr.storeAt storeVar
  simp [Sem.run_bind, Instr.sureAddr, hs, Value.cells, htl, h]

theorem FBlk.at {w : World} {g : Nat} {f : FV} (h : FBlk w g f) : At w ⟨g, 0, none⟩ f.cells := by
  intro j v hv
  rw [add_mk, cell_of_row _ _ _ _ _ _ h]
  simpa [FV.arr] using hv
theorem FBlk.ld {w : World} {g : Nat} {f : FV} (h : FBlk w g f) : (ld 31 (.pointer (some ⟨g, 0, none⟩))).run Try.prog w = .ok (.agg f.arr) w := run_ld31 f w _ h.at
theorem FBlk.ldv {w : World} {g : Nat} {f : FV} (h : FBlk w g f) : (loadVar 31 ⟨g, 0, none⟩).run Try.prog w = .ok (.agg f.arr) w :=
  run_lv31 f w _ h.at
theorem FBlk.below {w w' : World} {B g : Nat} {f : FV} (h : FBlk w g f) (hb : Below B w w') (hg : g < B) : FBlk w' g f := (hb.block g hg).trans h
theorem FBlk.new (w : World) (f : FV) : FBlk (w.alloc (.cells f.arr 31)) w.heap.size f := heap_alloc_new w _
theorem FBlk.alloc {w : World} {g : Nat} {f : FV} (h : FBlk w g f) (o : Obj) : FBlk (w.alloc o) g f :=
  h.below ((Below.refl w.heap.size w).alloc (Nat.le_refl _) o) (Array.getElem?_eq_some_iff.1 h).1
theorem FBlk.lt {w : World} {g : Nat} {f : FV} (h : FBlk w g f) : g < w.heap.size := (Array.getElem?_eq_some_iff.1 h).1
theorem FBlk.cell {w : World} {g : Nat} {f : FV} (h : FBlk w g f) (j : Nat) : w.cell? ⟨g, j, none⟩ = f.arr[j]? := cell_of_row _ _ _ _ _ _ h
theorem FBlk.free {w : World} {g : Nat} {f : FV} (h : FBlk w g f) (j : Nat) : w.frozen? ⟨g, j, none⟩ = false := frozen_of_row _ _ _ _ _ h
theorem FBlk.setRow {w : World} {g : Nat} {f : FV} (h : FBlk w g f) (f' : FV) : FBlk (w.setRow g f'.arr) g f' := setRow_heap w g _ _ _ _ h
theorem FBlk.setRow' {w : World} {g k : Nat} {f : FV} (h : FBlk w g f) (cs : Array Value) (hk : g ≠ k) : FBlk (w.setRow k cs) g f := (setRow_other w k g cs hk).trans h

def MV.withC (m : MV) (a : Option Addr) (l c : Nat) : MV := ⟨m.size, m.chunk, a, l, c, m.whole, m.hw⟩
def FV.withC (f : FV) (a : Option Addr) (l c : Nat) : FV := ⟨f.kind, f.epoch, f.node, f.m.withC a l c⟩
theorem FV.set5 (f : FV) (a : Option Addr) (l c : Nat) : f.arr.setIfInBounds 5 (.slice a l c) = (f.withC a l c).arr := by
  simp [FV.arr, FV.cells, MV.cells, FV.withC, MV.withC]
theorem FBlk.set5 {w : World} {g : Nat} {f : FV} (h : FBlk w g f) (a : Option Addr) (l c : Nat) : FBlk (w.setCell ⟨g, 5, none⟩ (.slice a l c)) g (f.withC a l c) := by
  unfold FBlk
  rw [heap_setCell_same w g 5 _ _ _ h, FV.set5]
theorem FBlk.set5' {w : World} {g k : Nat} {f : FV} (h : FBlk w g f) (v : Value) (hk : g ≠ k) : FBlk (w.setCell ⟨k, 5, none⟩ v) g f :=
  (heap_setCell_other w ⟨k, 5, none⟩ g v hk).trans h

/-- The manifest's chunks hold these bytes. -/
def MRd (w : World) (m : MV) (bs : List Int) : Prop :=
  bs.length = 32 * m.cl ∧ m.cl ≤ m.cc ∧ m.cc ≤ maxLen ∧ (m.ca = none → m.cc = 0) ∧ ∀ a, m.ca = some a → True ∧ At w a (bs.map (.int .u8))

theorem MRd.below {B : Nat} {w w' : World} {m : MV} {bs : List Int} (h : MRd w m bs) (hb : Below B w w') (hB : w.heap.size ≤ B) : MRd w' m bs := by
  obtain ⟨h0, h1, h2, h3, h4⟩ := h
  refine ⟨h0, h1, h2, h3, fun a ha => ⟨(h4 a ha).1, ?_⟩⟩
  by_cases hn : bs.map (Value.int .u8) = []
  · rw [hn]; intro j v hv; cases hv
  · exact (h4 a ha).2.below hb (Nat.lt_of_lt_of_le ((h4 a ha).2.lt hn) hB)

theorem At.same {w w' : World} {a : Addr} {cs : List Value} (h : At w a cs) (hb : w'.heap[a.block]? = w.heap[a.block]?) : At w' a cs := by
  intro j v hv
  have hab : (a.add j).block = a.block := by unfold Addr.add; split <;> rfl
  rw [World.cell?_of_block (w := w) (by rw [hab]; exact hb)]; exact h j v hv
theorem MRd.same {w w' : World} {m : MV} {bs : List Int} (h : MRd w m bs) (hb : ∀ a, m.ca = some a → w'.heap[a.block]? = w.heap[a.block]?) : MRd w' m bs := by
  obtain ⟨h0, h1, h2, h3, h4⟩ := h
  exact ⟨h0, h1, h2, h3, fun a ha => ⟨(h4 a ha).1, (h4 a ha).2.same (hb a ha)⟩⟩

theorem Try.info27 : (Try.prog.info? 27).map (fun i => (i.zero, i.size, i.bytes)) = some (some (.agg (B32 Z32)), 32, 32) := by kernel_rfl
theorem Try.und26 : Try.prog.underlying 26 = some (.slice 27) := by kernel_rfl
theorem B32_sz (l : List Int) : (B32 l).size = l.length := by simp [B32]

theorem bytes_one (bs : List Int) : ∀ u ∈ bs.map (Value.int .u8), u.oneCell' = true := by
  intro u hu
  obtain ⟨_, _, rfl⟩ := List.mem_map.1 hu
  rfl

set_option maxHeartbeats 800000 in
theorem clone26_any (m : MV) (bs : List Int) (w : World) (h : MRd w m bs) (hl : m.cl ≤ 100000) :
    Calls Try.prog 47 #[.slice m.ca m.cl m.cc] w fun r w' => ∃ a c, r = .returned (.slice a m.cl c) ∧ MRd w' (m.withC a m.cl c) bs ∧ (∀ x, a = some x → w.heap.size ≤ x.block) ∧ Below w.heap.size w w' := by
  obtain ⟨h0, h1, h2, h3, h4⟩ := h
  generalize hca : m.ca = ca at *
  have Hca := Lib.hid hca; clear hca
  generalize hcl : m.cl = cl at *
  have Hcl := Lib.hid hcl; clear hcl
  generalize hcc : m.cc = cc at *
  have Hcc := Lib.hid hcc; clear hcc
  obtain ⟨i0, hi, hz0, hz1, hz2⟩ := info_parts Try.info27
  cases ca with
  | none =>
    have hc := h3 rfl
    subst hc
    obtain rfl : cl = 0 := by omega
    have hb : bs = [] := List.eq_nil_of_length_eq_zero (by omega)
    subst hb
    go_enter Try.func47, Try.ntmps47
    go_wp2
    go_ret
    exact ⟨none, 0, rfl, ⟨rfl, Nat.le_refl _, by simp [MV.withC], fun _ => rfl, fun a ha => (by cases ha)⟩, fun x hx => (by cases hx), Below.refl _ _⟩
  | some a =>
    obtain ⟨hs, hat⟩ := h4 a rfl
    have hown := World.ownsRow_made (base := w.heap.size) (e := 27) (size := 32) w #[] 0 (Nat.le_refl _) (by simp) rfl
    have hlen : (bs.map (Value.int .u8)).length = cl * 32 := by rw [List.length_map, h0]; omega
    clear h0
    go_enter Try.func47, Try.ntmps47
    go_wp2_with (at_builtin; refine wpList_append_own _ rfl (.tmp 5) (.tmp 6) 26 rfl w.heap.size 27 i0 (.agg (B32 Z32)) 32 32 Try.und26 hi hz0 hz1 hz2 (by rw [Value.cells, B32_sz]; rfl) (by decide) _ 0 [] rfl hown a cl cc (bs.map (.int .u8)) rfl hlen ?c2 (bytes_one bs) ?c3 ?c4 ?c5 ?_)
    case c2 => exact hat.alloc' _
    case c3 => simp only [maxLen]; omega
    case c4 => omega
    case c5 => simp
    intro v' w' hown' hgr hnil
    go_wp2
    go_ret
    have hb : Below w.heap.size w w' := grown_own ((Below.refl _ _).al _) hgr (by simp) hown
    have hcs := fun g hg => World.ownsRow.cells (g := g) hown' hg
    obtain ⟨e1, e2⟩ := hown'
    rcases e2 with ⟨rfl, h0⟩ | ⟨g, cap, cur, rfl, hbg, hg, hn, hm, hss, ht⟩
    · exact absurd rfl hnil
    · refine ⟨some ⟨g, 0, none⟩, cap, rfl, ⟨by simp at hlen; simp [MV.withC]; omega, hn, hm, fun h => (by cases h), fun a ha => ?_⟩, fun x hx => ?_, hb⟩
      · cases ha
        exact ⟨trivial, hcs g rfl⟩
      · cases hx; exact hbg

theorem FV.at_ca {w : World} {g : Nat} {f : FV} (h : FBlk w g f) : w.cell? ⟨g, 5, none⟩ = some (.slice f.m.ca f.m.cl f.m.cc) := by
  rw [h.cell]; simp [FV.arr, FV.cells, MV.cells]

set_option maxHeartbeats 800000 in
theorem own_any (f : FV) (bs : List Int) (w : World) (h : MRd w f.m bs) (hl : f.m.cl ≤ 100000) :
    Calls Try.prog 31 #[.agg f.arr] w fun r w' => ∃ a c, r = .returned (.agg (f.withC a f.m.cl c).arr) ∧ MRd w' (f.m.withC a f.m.cl c) bs ∧ (∀ x, a = some x → w.heap.size ≤ x.block) ∧ Below w.heap.size w w' := by
  go_enter Try.func31, Try.ntmps31
  go_wp2_with fail
  refine (clone26_any f.m bs _ (h.below ((Below.refl _ _).al _ |>.al _) (Nat.le_refl _)) hl).mono ?_
  rintro e w1 ⟨a, c, rfl, hm, hnew, hb⟩
  have hb1 : FBlk w1 w.heap.size f := ((FBlk.new w f).alloc _).below hb (by simp; omega)
  have hb2 : FBlk w1 (w.heap.size + 1) (FV0 0 0 0) := by
    have := FBlk.new (w.alloc (.cells f.arr 31)) (FV0 0 0 0)
    rw [World.size_alloc] at this
    exact this.below hb (by simp)
  have hbel : Below w.heap.size w w1 := (((Below.refl _ _).al _).al _).trans (hb.mono (by simp; omega))
  have hc5 := FV.at_ca hb1
  have hf5 := hb1.free 5
  have hg1 := hb1.set5 a f.m.cl c
  have hg2 := hb2.set5' (.slice a f.m.cl c) (show w.heap.size + 1 ≠ w.heap.size by omega)
  have hld := hg1.ld
  have hst := run_st31 _ _ _ hg2 (FV.sz _) (f.withC a f.m.cl c)
  go_wp2
  have hg3 := hg2.setRow (f.withC a f.m.cl c)
  refine bodyPost_ret (v := .agg (f.withC a f.m.cl c).arr) ?_ rfl ⟨a, c, rfl, ?_, fun x hx => ?_, ?_⟩
  · simp [results, Try.results31, asAddr, hg3.ldv]
  · refine hm.same fun x hx => ?_
    have := hnew x hx
    simp only [World.size_alloc] at this
    rw [setRow_other _ _ _ _ (by omega), heap_setCell_other _ _ _ _ (by simp; omega)]
  · have := hnew x hx
    simp only [World.size_alloc] at this
    omega
  · exact below_setRow (hbel.setCell (by simp) _) (by omega) _

end Go.Proofs.Ytchfoioahgfjdaa
