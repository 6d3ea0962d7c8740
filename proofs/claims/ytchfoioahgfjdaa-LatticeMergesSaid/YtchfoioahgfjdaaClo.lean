/- The closures of package lattice. -/
import Derived.Test.YtchfoioahgfjdaaOwn
namespace Go.Proofs.Ytchfoioahgfjdaa
open Go.RowKit

def isB (k e : Int) (f : FV) : Bool := f.kind == k && f.epoch == e

set_option maxHeartbeats 800000 in
theorem is_any (k e : Int) (f : FV) (w : World) :
    Calls Try.prog 50 #[.agg #[.int .i64 k, .int .i64 e], .agg f.arr] w fun r w' => r = .returned (.bool (isB k e f)) ∧ Below w.heap.size w w' := by
  by_cases h1 : f.kind = k
  · have hB : (f.kind == k) = true := by simp [h1]
    have H : Hid (isB k e f = (f.epoch == e)) := by unfold Hid isB; rw [hB]; rfl
    clear h1
    go_enter Try.func50, Try.ntmps50
    go_wp2
    go_ret
    exact ⟨by rw [H.out]; rfl, Below.refl _ _ |>.al _ |>.al _⟩
  · have hB : (f.kind == k) = false := by simp [h1]
    have H : Hid (isB k e f = false) := by unfold Hid isB; rw [hB]; rfl
    clear h1
    go_enter Try.func50, Try.ntmps50
    go_wp2
    go_ret
    exact ⟨by rw [H.out]; rfl, Below.refl _ _ |>.al _ |>.al _⟩

set_option maxHeartbeats 800000 in
theorem has1_any (f : FV) (b : Nat) (n : Int) (w : World) (hc : w.cell? ⟨b, 0, none⟩ = some (.int .i64 n)) :
    Calls Try.prog 38 #[.agg f.arr, .pointer (some ⟨b, 0, none⟩)] w fun r w' => r = .returned (.bool (f.node == n)) ∧ Below w.heap.size w w' := by
  have hlt := block_lt_of_cell hc
  go_enter Try.func38, Try.ntmps38
  go_wp2
  go_ret
  exact ⟨rfl, Below.refl _ _ |>.al _⟩

set_option maxHeartbeats 800000 in
theorem best1_any (f : FV) (w : World) :
    Calls Try.prog 40 #[.agg f.arr] w fun r w' => r = .returned (.bool (f.kind == 1)) ∧ Below w.heap.size w w' := by
  go_enter Try.func40, Try.ntmps40
  go_wp2
  go_ret
  exact ⟨rfl, Below.refl _ _ |>.al _⟩

set_option maxHeartbeats 800000 in
theorem add1_any (x f : FV) (b : Nat) (w : World) (hc : FBlk w b f) :
    Calls Try.prog 29 #[.agg x.arr, .pointer (some ⟨b, 0, none⟩)] w fun r w' => r = .returned (.bool (!(ltF x f))) ∧ Below w.heap.size w w' := by
  have hl1 := (FBlk.new w x).ld
  have hl2 := (hc.alloc (.cells x.arr 31)).ld
  have H : Hid (ltF x f = ltF x f) := rfl
  generalize hb : ltF x f = t at *
  have hb' := Lib.hid hb
  clear hb
  go_enter Try.func29, Try.ntmps29
  go_wp2_with fail
  refine (less_any _ _ _).mono ?_
  rintro e w' ⟨rfl, hbel⟩
  rw [hb'.out]
  go_wp2
  go_ret
  exact ⟨rfl, (Below.refl _ _ |>.al _).trans (hbel.mono (by simp))⟩

end Go.Proofs.Ytchfoioahgfjdaa
