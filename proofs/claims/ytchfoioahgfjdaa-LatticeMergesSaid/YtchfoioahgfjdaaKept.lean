/- lattice.kept. -/
import Derived.Test.YtchfoioahgfjdaaBld
namespace Go.Proofs.Ytchfoioahgfjdaa
open Go.RowKit

theorem take_snoc' {α : Type} {l : List α} {k : Nat} {x : α} (h : l[k]? = some x) : l.take (k + 1) = l.take k ++ [x] := by
  rw [List.take_add_one, h]; rfl
theorem filt_in {α : Type} {l : List α} {k : Nat} {x : α} {p : α → Bool} (h : l[k]? = some x) (hp : p x = true) : (l.take (k + 1)).filter p = (l.take k).filter p ++ [x] := by
  rw [take_snoc' h, List.filter_append]; simp [hp]
theorem filt_out {α : Type} {l : List α} {k : Nat} {x : α} {p : α → Bool} (h : l[k]? = some x) (hp : p x = false) : (l.take (k + 1)).filter p = (l.take k).filter p := by
  rw [take_snoc' h, List.filter_append]; simp [hp]
theorem filt_len {α : Type} (l : List α) (k : Nat) (p : α → Bool) : ((l.take k).filter p).length ≤ k :=
  Nat.le_trans (List.length_filter_le _ _) (List.length_take_le _ _)

theorem Below.gb {w w' : World} (h : Below w.heap.size w w') : w.grownBy w' none := ⟨h.os, h.tape, h.output, h.size, fun k hk _ => h.block k hk⟩
theorem OSl.below {B : Nat} {w w' : World} {v : Value} {fs : List FV} (h : OSl B w v fs) (hb : Below w.heap.size w w') : OSl B w' v fs :=
  World.ownsRow.kept h (Below.gb hb) (by cases hv : v.ownBlock <;> simp)
theorem OSl.alloc {B : Nat} {w : World} {v : Value} {fs : List FV} (h : OSl B w v fs) (o : Obj) : OSl B (w.alloc o) v fs := World.ownsRow.alloc h o
theorem OSl.mono {B B' : Nat} {w : World} {v : Value} {fs : List FV} (h : OSl B w v fs) (hB : B' ≤ B) : OSl B' w v fs := by
  obtain ⟨h1, h2⟩ := h
  refine ⟨h1, ?_⟩
  rcases h2 with h2 | ⟨g, cap, cur, hv, hg, r⟩
  · exact .inl h2
  · exact .inr ⟨g, cap, cur, hv, Nat.le_trans hB hg, r⟩

set_option maxHeartbeats 1600000 in
theorem kept_is (va : Option Addr) (n cap : Nat) (fs : List FV) (kd ep : Int) (w : World) (h : FSl w (.slice va n cap) fs) (hl : fs.length ≤ 100000) :
    Calls Try.prog 39 #[.slice va n cap, .func (.func 50) #[.agg #[.int .i64 kd, .int .i64 ep]] #[]] w fun r w' => ∃ v', r = .returned v' ∧ OSl w.heap.size w' v' (fs.filter (isB kd ep)) ∧ Below w.heap.size w w' := by
  obtain ⟨rfl, hn2, hn3, hn4⟩ := h.len
  obtain ⟨i0, hi, hz0, hz1, hz2⟩ := info_parts Try.info31
  go_enter Try.func39, Try.ntmps39
  go_wp2
  go_loopw [4, 9] (fun out i wr => ∃ k : Nat, k ≤ fs.length ∧ i = .int .i64 k ∧ OSl w.heap.size wr out ((fs.take k).filter (isB kd ep)) ∧ Below w.heap.size w wr)
    (fun _ i _ => fs.length - (intOf i).toNat)
  case atStart => exact ⟨0, Nat.zero_le _, rfl, World.ownsRow_nil _ _ _ _, Below.refl _ _⟩
  case round =>
    obtain ⟨k, hk, rfl, hown, hbel⟩ := hrel
    by_cases hlt : k < fs.length
    · obtain ⟨f, hf⟩ : ∃ f, fs[k]? = some f := ⟨_, List.getElem?_eq_getElem hlt⟩
      obtain ⟨b, o, rfl, hat⟩ := (h.below hbel (Nat.le_refl _)).elem hf
      have hld := run_ld31 f _ _ hat
      have hfl := filt_len fs k (isB kd ep)
      have HF := Lib.hid hf
      clear hat hf
      go_wp2_with fail
      refine (is_any _ _ _ _).mono ?_
      rintro e w1 ⟨rfl, hb1⟩
      have hld2 := ((FBlk.new wr f).below hb1 (by simp)).ld
      have hown1 := (hown.alloc (.cells f.arr 31)).below hb1
      have hbel1 : Below w.heap.size w w1 := (hbel.al (.cells f.arr 31)).trans (hb1.mono (by simp; have := hbel.size; omega))
      have hsz := hbel1.size
      clear hown
      cases hp : (isB kd ep) f with
      | false =>
        have HP := Lib.hid hp
        clear hp
        go_wp2
        go_roundw
        case rel => exact ⟨k + 1, by omega, by simp, by rw [filt_out HF.out HP.out]; exact hown1, hbel1⟩
        case measure => simp [intOf]; omega
      | true =>
        have HP := Lib.hid hp
        clear hp
        go_wp2_with (at_builtin; refine wpList_append_own _ rfl (.tmp 16) (.tmp 18) 23 rfl w.heap.size 31 i0 (.agg (FV0 0 0 0).arr) 38 96 Try.und23 hi hz0 hz1 hz2 (FV.sz _) (by decide) _ _ _ rfl (hown1.alloc _) ⟨w1.heap.size, 0, none⟩ 1 1 f.cells rfl f.len ?c2 f.one ?c3 ?c4 ?c5 ?_)
        case c2 => first | exact (FBlk.new w1 f).at | (intro j u hu; simpa [FV.arr] using hu)
        case c3 => simp only [maxLen]; omega
        case c4 => omega
        case c5 => first | omega | (simp; omega)
        intro v' w2 hown2 hgr _
        have hbel2 : Below w.heap.size w w2 := grown_own (hbel1.al _) hgr (by simp; omega) (hown1.alloc _)
        clear hown1 hgr
        go_wp2
        go_roundw
        case rel => exact ⟨k + 1, by omega, by simp, by rw [filt_in HF.out HP.out]; unfold OSl; rw [flat_append, flat_one, List.length_append]; exact hown2, hbel2⟩
        case measure => simp [intOf]; omega
    · obtain rfl : k = fs.length := by omega
      go_wp2
      go_ret
      exact ⟨_, rfl, by rw [List.take_length] at hown; exact hown, hbel⟩

set_option maxHeartbeats 1600000 in
theorem kept_best (va : Option Addr) (n cap : Nat) (fs : List FV) (w : World) (h : FSl w (.slice va n cap) fs) (hl : fs.length ≤ 100000) :
    Calls Try.prog 39 #[.slice va n cap, .func (.func 40) #[] #[]] w fun r w' => ∃ v', r = .returned v' ∧ OSl w.heap.size w' v' (fs.filter (fun f : FV => f.kind == 1)) ∧ Below w.heap.size w w' := by
  obtain ⟨rfl, hn2, hn3, hn4⟩ := h.len
  obtain ⟨i0, hi, hz0, hz1, hz2⟩ := info_parts Try.info31
  go_enter Try.func39, Try.ntmps39
  go_wp2
  go_loopw [4, 9] (fun out i wr => ∃ k : Nat, k ≤ fs.length ∧ i = .int .i64 k ∧ OSl w.heap.size wr out ((fs.take k).filter (fun f : FV => f.kind == 1)) ∧ Below w.heap.size w wr)
    (fun _ i _ => fs.length - (intOf i).toNat)
  case atStart => exact ⟨0, Nat.zero_le _, rfl, World.ownsRow_nil _ _ _ _, Below.refl _ _⟩
  case round =>
    obtain ⟨k, hk, rfl, hown, hbel⟩ := hrel
    by_cases hlt : k < fs.length
    · obtain ⟨f, hf⟩ : ∃ f, fs[k]? = some f := ⟨_, List.getElem?_eq_getElem hlt⟩
      obtain ⟨b, o, rfl, hat⟩ := (h.below hbel (Nat.le_refl _)).elem hf
      have hld := run_ld31 f _ _ hat
      have hfl := filt_len fs k (fun f : FV => f.kind == 1)
      have HF := Lib.hid hf
      clear hat hf
      go_wp2_with fail
      refine (best1_any _ _).mono ?_
      rintro e w1 ⟨rfl, hb1⟩
      have hld2 := ((FBlk.new wr f).below hb1 (by simp)).ld
      have hown1 := (hown.alloc (.cells f.arr 31)).below hb1
      have hbel1 : Below w.heap.size w w1 := (hbel.al (.cells f.arr 31)).trans (hb1.mono (by simp; have := hbel.size; omega))
      have hsz := hbel1.size
      clear hown
      cases hp : (fun f : FV => f.kind == 1) f with
      | false =>
        have HP := Lib.hid hp
        simp only [hp]
        clear hp
        go_wp2
        go_roundw
        case rel => exact ⟨k + 1, by omega, by simp, by rw [filt_out HF.out HP.out]; exact hown1, hbel1⟩
        case measure => simp [intOf]; omega
      | true =>
        have HP := Lib.hid hp
        simp only [hp]
        clear hp
        go_wp2_with (at_builtin; refine wpList_append_own _ rfl (.tmp 16) (.tmp 18) 23 rfl w.heap.size 31 i0 (.agg (FV0 0 0 0).arr) 38 96 Try.und23 hi hz0 hz1 hz2 (FV.sz _) (by decide) _ _ _ rfl (hown1.alloc _) ⟨w1.heap.size, 0, none⟩ 1 1 f.cells rfl f.len ?c2 f.one ?c3 ?c4 ?c5 ?_)
        case c2 => first | exact (FBlk.new w1 f).at | (intro j u hu; simpa [FV.arr] using hu)
        case c3 => simp only [maxLen]; omega
        case c4 => omega
        case c5 => first | omega | (simp; omega)
        intro v' w2 hown2 hgr _
        have hbel2 : Below w.heap.size w w2 := grown_own (hbel1.al _) hgr (by simp; omega) (hown1.alloc _)
        clear hown1 hgr
        go_wp2
        go_roundw
        case rel => exact ⟨k + 1, by omega, by simp, by rw [filt_in HF.out HP.out]; unfold OSl; rw [flat_append, flat_one, List.length_append]; exact hown2, hbel2⟩
        case measure => simp [intOf]; omega
    · obtain rfl : k = fs.length := by omega
      go_wp2
      go_ret
      exact ⟨_, rfl, by rw [List.take_length] at hown; exact hown, hbel⟩

end Go.Proofs.Ytchfoioahgfjdaa
