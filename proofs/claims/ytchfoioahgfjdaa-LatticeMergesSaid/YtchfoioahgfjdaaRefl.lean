/- The reference's Has and Less of layers 11 and 10. -/
import Derived.Test.YtchfoioahgfjdaaRef
namespace Go.Proofs.Ytchfoioahgfjdaa
open Go.RowKit

def isK (k e n : Int) (f : FV) : Bool := f.kind == k && f.epoch == e && f.node == n
theorem hasF_any (fs : List FV) (k e n : Int) : hasF fs k e n = fs.any (isK k e n) := by
  unfold hasF
  rw [List.any_filter]
  rfl

set_option maxHeartbeats 1600000 in
theorem has43_any (va : Option Addr) (n cap : Nat) (fs : List FV) (kd ep nd : Int) (w : World) (h : FSl w (.slice va n cap) fs) :
    Calls Try.prog 43 #[.slice va n cap, .int .i64 kd, .int .i64 ep, .int .i64 nd] w fun r w' => r = .returned (.bool (hasF fs kd ep nd)) ∧ Below w.heap.size w w' := by
  obtain ⟨rfl, hn2, hn3, hn4⟩ := h.len
  have HH := Lib.hid (hasF_any fs kd ep nd)
  have hb9 : fs.length ≤ 9223372036854775807 := by unfold maxLen at hn3; omega
  go_enter Try.func43, Try.ntmps43
  go_wp2
  go_loopw [9] (fun i wr => ∃ k : Nat, k ≤ fs.length ∧ i = .int .i64 k ∧ (fs.take k).any (isK kd ep nd) = false ∧ Below w.heap.size w wr) (fun i _ => fs.length - (intOf i).toNat)
  case atStart => exact ⟨0, Nat.zero_le _, rfl, by simp, Below.refl _ _⟩
  case round =>
    obtain ⟨k, hk, rfl, hpre, hbel⟩ := hrel
    have HP := Lib.hid hpre
    clear hpre
    by_cases hlt : k < fs.length
    · obtain ⟨f, hfk⟩ : ∃ f, fs[k]? = some f := ⟨_, List.getElem?_eq_getElem hlt⟩
      obtain ⟨b, o, rfl, hat⟩ := (h.below hbel (Nat.le_refl _)).elem hfk
      have hc0 : wr.cell? ⟨b, o + k * 38, none⟩ = some (.int .i64 f.kind) := by have := hat 0 _ (by simp [FV.cells]; rfl); rwa [Addr.add_zero'] at this
      have hc1 : wr.cell? ⟨b, o + k * 38 + 1, none⟩ = some (.int .i64 f.epoch) := by have := hat 1 _ (by simp [FV.cells]; rfl); rwa [add_mk] at this
      have hc2 : wr.cell? ⟨b, o + k * 38 + 2, none⟩ = some (.int .i64 f.node) := by have := hat 2 _ (by simp [FV.cells]; rfl); rwa [add_mk] at this
      have i1 : (k : Int) < (fs.length : Int) := by omega
      have HF := Lib.hid hfk
      have HN : isK kd ep nd f = false → Hid ((fs.take (k + 1)).any (isK kd ep nd) = false) := fun e => by unfold Hid; rw [take_snoc' HF.out, List.any_append, HP.out]; simp [e]
      have HY : isK kd ep nd f = true → Hid (hasF fs kd ep nd = true) := fun e => by unfold Hid; rw [HH.out]; exact List.any_eq_true.2 ⟨f, List.mem_of_getElem? HF.out, e⟩
      clear hfk hat
      by_cases h1 : f.kind = kd
      rotate_left
      · have H := HN (by unfold isK; rw [beq_f h1]; rfl)
        have hB := beq_f h1
        clear HN HY h1
        go_wp2
        go_roundw
        case rel => exact ⟨k + 1, by omega, by simp, H.out, hbel⟩
        case measure => simp [intOf]; omega
      by_cases h2 : f.epoch = ep
      rotate_left
      · have H := HN (by unfold isK; rw [beq_f h2]; simp)
        have hB := beq_t h1
        have hB2 := beq_f h2
        clear HN HY h1 h2
        go_wp2
        go_roundw
        case rel => exact ⟨k + 1, by omega, by simp, H.out, hbel⟩
        case measure => simp [intOf]; omega
      by_cases h3 : f.node = nd
      rotate_left
      · have H := HN (by unfold isK; rw [beq_f h3]; simp)
        have hB := beq_t h1
        have hB2 := beq_t h2
        have hB3 := beq_f h3
        clear HN HY h1 h2 h3
        go_wp2
        go_roundw
        case rel => exact ⟨k + 1, by omega, by simp, H.out, hbel⟩
        case measure => simp [intOf]; omega
      · have H := HY (by unfold isK; rw [h1, h2, h3]; simp)
        have hB := beq_t h1
        have hB2 := beq_t h2
        have hB3 := beq_t h3
        clear HN HY h1 h2 h3
        go_wp2
        go_ret
        exact ⟨by rw [H.out]; rfl, hbel⟩
    · obtain rfl : k = fs.length := by omega
      have H : Hid (hasF fs kd ep nd = false) := by unfold Hid; rw [HH.out]; have := HP.out; rwa [List.take_length] at this
      go_wp2
      go_ret
      exact ⟨by rw [H.out]; rfl, hbel⟩

set_option maxHeartbeats 1600000 in
theorem less44_any (f g : FV) (w : World) : Calls Try.prog 44 #[.agg f.arr, .agg g.arr] w fun r w' => r = .returned (.bool (ltF f g)) ∧ Below w.heap.size w w' := by
  have hbw : Below w.heap.size w ((w.alloc (.cells f.arr 31)).alloc (.cells g.arr 31)) := ((Below.refl _ _).al _).al _
  have hba := (FBlk.new w f).alloc (.cells g.arr 31)
  have hbb := FBlk.new (w.alloc (.cells f.arr 31)) g
  rw [World.size_alloc] at hbb
  have ka := FBlk.kd hba
  have kb := FBlk.kd hbb
  have ea := FV.ep hba
  have eb := FV.ep hbb
  have na := FV.nd hba
  have nb := FV.nd hbb
  by_cases h1 : f.epoch = g.epoch
  rotate_left
  · have H : Hid (ltF f g = decide (f.epoch < g.epoch)) := by unfold Hid ltF; rw [beq_f h1]; simp
    have hB := beq_f h1
    have hB' : (f.epoch != g.epoch) = true := by simp [h1]
    clear h1
    go_enter Try.func44, Try.ntmps44
    go_wp2
    go_ret
    exact ⟨by rw [H.out]; rfl, hbw⟩
  by_cases h2 : f.kind = g.kind
  rotate_left
  · have H : Hid (ltF f g = decide (f.kind < g.kind)) := by unfold Hid ltF; rw [h1, beq_f h2]; simp
    have hB := beq_t h1
    have hB' : (f.epoch != g.epoch) = false := by simp [h1]
    have hB2 : (f.kind != g.kind) = true := by simp [h2]
    clear h1 h2
    go_enter Try.func44, Try.ntmps44
    go_wp2
    go_ret
    exact ⟨by rw [H.out]; rfl, hbw⟩
  · have H : Hid (ltF f g = decide (f.node < g.node)) := by unfold Hid ltF; rw [h1, h2]; simp
    have hB' : (f.epoch != g.epoch) = false := by simp [h1]
    have hB2 : (f.kind != g.kind) = false := by simp [h2]
    clear h1 h2
    go_enter Try.func44, Try.ntmps44
    go_wp2
    go_ret
    exact ⟨by rw [H.out]; rfl, hbw⟩

end Go.Proofs.Ytchfoioahgfjdaa
