/- The statements' own functions: grown, plain. -/
import Derived.Test.YtchfoioahgfjdaaEqs
namespace Go.Proofs.Ytchfoioahgfjdaa
open Go.RowKit

def few (x : AF) : Bool := decide (x.1.m.cl ≤ 100)
def grown1 (nodes : Int) (X : List AF) (x : AF) : List AF := if few x then addX nodes X x else X
def grownX (nodes : Int) (Y : List AF) : List AF := Y.foldl (grown1 nodes) []
theorem grownX_succ {nodes : Int} {Y : List AF} {k : Nat} {y : AF} (h : Y[k]? = some y) : grownX nodes (Y.take (k + 1)) = grown1 nodes (grownX nodes (Y.take k)) y := by
  unfold grownX; rw [take_snoc' h, List.foldl_append]; rfl
theorem fold_len (nodes : Int) (Y : List AF) (N : Nat) (hN : 200 ≤ N) : ∀ X : List AF, X.length ≤ N → (Y.foldl (grown1 nodes) X).length ≤ N := by
  induction Y with
  | nil => intro X h; exact h
  | cons y Y ih =>
    intro X h
    refine ih _ ?_
    unfold grown1
    split
    · exact addX_len nodes X y N hN h
    · exact h
theorem grownX_len (nodes : Int) (Y : List AF) : (grownX nodes Y).length ≤ 200 := fold_len nodes Y 200 (Nat.le_refl _) [] (by simp)

theorem OSl.nil (B : Nat) (w : World) : OSl B w (.slice none 0 0) [] := World.ownsRow_nil _ _ _ _
theorem FSl.one' {w : World} {g : Nat} {f : FV} (h : FBlk w g f) : FSl w (.slice (some ⟨g, 0, none⟩) 1 1) [f] := FSl.one h

set_option maxHeartbeats 3200000 in
theorem grown_any (nodes : Int) (va : Option Addr) (n cap : Nat) (fs : List FV) (X : List AF) (mo : Nat) (w : World) (h : FSl w (.slice va n cap) fs) (hX : LRd w fs X) (hmo : mo ≤ 1000) :
    Calls Try.prog 11 #[.int .i64 nodes, .slice va n cap, .int .i64 mo] w fun r w' => ∃ v' gs, r = .returned v' ∧ OSl w.heap.size w' v' gs ∧ LRd w' gs (grownX nodes (X.take mo)) ∧ From w.heap.size [] gs ∧ Below w.heap.size w w' := by
  obtain ⟨rfl, hn2, hn3, hn4⟩ := h.len
  have HXL := Lib.hid hX.len
  go_enter Try.func11, Try.ntmps11
  go_wp2
  go_loopw [7, 8] (fun out i wr => ∃ k : Nat, k ≤ fs.length ∧ k ≤ mo ∧ i = .int .i64 k ∧ Below w.heap.size w wr ∧ ∃ gs, OSl w.heap.size wr out gs ∧ LRd wr gs (grownX nodes (X.take k)) ∧ From w.heap.size [] gs)
    (fun _ i _ => fs.length - (intOf i).toNat)
  case atStart => exact ⟨0, Nat.zero_le _, Nat.zero_le _, rfl, Below.refl _ _, [], OSl.nil _ _, by simp [grownX, LRd], From.refl _ _⟩
  case round =>
    obtain ⟨k, hk, hkm, rfl, hbel, gs, hown, hLR, hfr⟩ := hrel
    have hsz := hbel.size
    by_cases hlt : k < fs.length
    · by_cases hlm : k < mo
      · obtain ⟨f, hfk⟩ : ∃ f, fs[k]? = some f := ⟨_, List.getElem?_eq_getElem hlt⟩
        obtain ⟨x, hx, hfx⟩ := hX.get k f hfk
        obtain ⟨b, o, rfl, hat⟩ := (h.below hbel (Nat.le_refl _)).elem hfk
        have hld := run_ld31 f _ _ hat
        have hld2 := run_ld31 f _ _ (hat.alloc' (.cells f.arr 31))
        have i0 : (k : Int) < (fs.length : Int) := by omega
        have i1 : (k : Int) < (mo : Int) := by omega
        have HY := Lib.hid (grownX_succ (nodes := nodes) hx)
        have HC := Lib.hid (cl_n hfx.1)
        clear hfk hx hat
        cases hfew : decide (f.m.cl ≤ 100) with
        | true =>
          have HFew : Hid (grown1 nodes (grownX nodes (X.take k)) x = addX nodes (grownX nodes (X.take k)) x) := by unfold Hid grown1; rw [if_pos (by rw [few, ← HC.out]; exact hfew)]
          have hc : f.m.cl ≤ 100000 := by simp at hfew; omega
          have hgl : gs.length ≤ 1000 := by rw [hLR.len]; have := grownX_len nodes (X.take k); omega
          have hb2 : Below wr.heap.size wr ((wr.alloc (.cells f.arr 31)).alloc (.cells f.arr 31)) := ((Below.refl _ _).al _).al _
          have hb0 : Below w.heap.size w ((wr.alloc (.cells f.arr 31)).alloc (.cells f.arr 31)) := hbel.trans (hb2.mono hsz)
          have hown2 := (hown.alloc (.cells f.arr 31)).alloc (.cells f.arr 31)
          have hLR2 := hLR.below hb2 (Nat.le_refl _)
          have hblk := FBlk.new (wr.alloc (.cells f.arr 31)) f
          have hY : LRd ((wr.alloc (.cells f.arr 31)).alloc (.cells f.arr 31)) [f] [x] := ⟨hfx.below hb0 (Nat.le_refl _), trivial⟩
          have hF1 := FSl.one hblk
          rw [World.size_alloc] at hF1
          have HF := Lib.hid hfew
          clear hLR hown hfx hblk hfew
          go_wp2_with (go_at_call 12; refine (few_any f _).mono ?_; rintro e w' ⟨rfl, rfl⟩; rw [HF.out])
          refine (merge_any nodes _ gs _ (some ⟨wr.heap.size + 1, 0, none⟩) 1 1 [f] [x] _ hown2.fsl hLR2 hF1 hY (by intro g hg; simp at hg; subst hg; exact hc) hgl (by simp)).mono ?_
          rintro e w2 ⟨v', gs2, rfl, ho2, hL2, hf2, hb3⟩
          have hbel2 : Below w.heap.size w w2 := hb0.trans (hb3.mono (by simp; omega))
          have hfr2 := hfr.trans (hf2.mono (B' := w.heap.size) (by simp; omega))
          have ho3 := ho2.mono (B' := w.heap.size) (by simp; omega)
          clear hgl ho2 hf2 hfr hown2 hLR2 hF1 hY
          go_wp2
          go_roundw
          case rel => exact ⟨k + 1, by omega, by omega, by simp, hbel2, gs2, ho3, by rw [HY.out, HFew.out]; exact hL2, hfr2⟩
          case measure => simp [intOf]; omega
        | false =>
          have HFew : Hid (grown1 nodes (grownX nodes (X.take k)) x = grownX nodes (X.take k)) := by unfold Hid grown1; rw [if_neg (by rw [few, ← HC.out, hfew]; simp)]
          have hb2 : Below wr.heap.size wr (wr.alloc (.cells f.arr 31)) := (Below.refl _ _).al _
          have hb0 : Below w.heap.size w (wr.alloc (.cells f.arr 31)) := hbel.trans (hb2.mono hsz)
          have hown2 := hown.alloc (.cells f.arr 31)
          have hLR2 := hLR.below hb2 (Nat.le_refl _)
          have HF := Lib.hid hfew
          clear hLR hown hfx hfew
          go_wp2_with (go_at_call 12; refine (few_any f _).mono ?_; rintro e w' ⟨rfl, rfl⟩; rw [HF.out])
          go_roundw
          case rel => exact ⟨k + 1, by omega, by omega, by simp, hb0, gs, hown2, by rw [HY.out, HFew.out]; exact hLR2, hfr⟩
          case measure => simp [intOf]; omega
      · obtain rfl : k = mo := by omega
        have i0 : (k : Int) < (fs.length : Int) := by omega
        go_wp2
        go_ret
        exact ⟨_, gs, rfl, hown, hLR, hfr, hbel⟩
    · obtain rfl : k = fs.length := by omega
      have hLR' : LRd wr gs (grownX nodes (X.take mo)) := by
        rwa [HXL.out, List.take_length, ← List.take_of_length_le (l := X) (i := mo) (by rw [← HXL.out]; exact hkm)] at hLR
      clear hLR
      go_wp2
      go_ret
      exact ⟨_, gs, rfl, hown, hLR', hfr, hbel⟩

def notE (x : AF) : Bool := !(x.1.kind == 1)
theorem LRd.alloc {w : World} {fs : List FV} {X : List AF} (h : LRd w fs X) (o : Obj) : LRd (w.alloc o) fs X := h.below ((Below.refl _ w).al o) (Nat.le_refl _)

set_option maxHeartbeats 1600000 in
theorem plain_any (va : Option Addr) (n cap : Nat) (fs : List FV) (X : List AF) (mo : Nat) (w : World) (h : FSl w (.slice va n cap) fs) (hX : LRd w fs X) (hmo : mo ≤ 1000) :
    Calls Try.prog 16 #[.slice va n cap, .int .i64 mo] w fun r w' => ∃ v' gs, r = .returned v' ∧ OSl w.heap.size w' v' gs ∧ LRd w' gs ((X.take mo).filter notE) ∧ Below w.heap.size w w' := by
  obtain ⟨rfl, hn2, hn3, hn4⟩ := h.len
  obtain ⟨i0, hi, hz0, hz1, hz2⟩ := info_parts Try.info31
  have HXL := Lib.hid hX.len
  go_enter Try.func16, Try.ntmps16
  go_wp2
  go_loopw [5, 6] (fun out i wr => ∃ k : Nat, k ≤ fs.length ∧ k ≤ mo ∧ i = .int .i64 k ∧ Below w.heap.size w wr ∧ ∃ gs, gs.length ≤ k ∧ OSl w.heap.size wr out gs ∧ LRd w gs ((X.take k).filter notE))
    (fun _ i _ => fs.length - (intOf i).toNat)
  case atStart => exact ⟨0, Nat.zero_le _, Nat.zero_le _, rfl, Below.refl _ _, [], Nat.le_refl _, OSl.nil _ _, by simp [LRd]⟩
  case round =>
    obtain ⟨k, hk, hkm, rfl, hbel, gs, hgk, hown, hLR⟩ := hrel
    have hsz := hbel.size
    by_cases hlt : k < fs.length
    · by_cases hlm : k < mo
      · obtain ⟨f, hfk⟩ : ∃ f, fs[k]? = some f := ⟨_, List.getElem?_eq_getElem hlt⟩
        obtain ⟨x, hx, hfx⟩ := hX.get k f hfk
        obtain ⟨b, o, rfl, hat⟩ := (h.below hbel (Nat.le_refl _)).elem hfk
        have hld := run_ld31 f _ _ hat
        have hc0 : wr.cell? ⟨b, o + k * 38, none⟩ = some (.int .i64 f.kind) := by have := hat 0 _ (by simp [FV.cells]; rfl); rwa [Addr.add_zero'] at this
        have i0' : (k : Int) < (fs.length : Int) := by omega
        have i1 : (k : Int) < (mo : Int) := by omega
        have HX := Lib.hid hx
        have HK := Lib.hid (kind_n hfx.1)
        clear hfk hx hat
        cases hp : f.kind == 1 with
        | true =>
          have HP : Hid (notE x = false) := by unfold Hid notE; rw [← HK.out, hp]; rfl
          have hq : (f.kind != 1) = false := by simp at hp; simp [hp]
          clear hp
          go_wp2
          go_roundw
          case rel => exact ⟨k + 1, by omega, by omega, by simp, hbel, gs, by omega, hown, by rw [filt_out HX.out HP.out]; exact hLR⟩
          case measure => simp [intOf]; omega
        | false =>
          have HP : Hid (notE x = true) := by unfold Hid notE; rw [← HK.out, hp]; rfl
          have hq : (f.kind != 1) = true := by simp at hp; simp [hp]
          clear hp
          go_wp2_with (at_builtin; refine wpList_append_own _ rfl (.tmp 24) (.tmp 29) 23 rfl w.heap.size 31 i0 (.agg (FV0 0 0 0).arr) 38 96 Try.und23 hi hz0 hz1 hz2 (FV.sz _) (by decide) _ _ _ rfl (hown.alloc _) ⟨wr.heap.size, 0, none⟩ 1 1 f.cells rfl f.len ?c2 f.one ?c3 ?c4 ?c5 ?_)
          case c2 => first | exact (FBlk.new wr f).at | (intro j u hu; simpa [FV.arr] using hu)
          case c3 => simp only [maxLen]; omega
          case c4 => omega
          case c5 => first | omega | (simp; omega)
          intro v' w2 hown2 hgr _
          have hbel2 : Below w.heap.size w w2 := grown_own (hbel.al _) hgr (by simp; omega) (hown.alloc _)
          have hLR3 := LRd.append hLR (gs := [f]) (Y := [x]) ⟨hfx, trivial⟩
          clear hown hgr
          go_wp2
          go_roundw
          case rel => exact ⟨k + 1, by omega, by omega, by simp, hbel2, gs ++ [f], by simp; omega, by unfold OSl; rw [flat_append, flat_one, List.length_append]; exact hown2, by rw [filt_in HX.out HP.out]; exact hLR3⟩
          case measure => simp [intOf]; omega
      · obtain rfl : k = mo := by omega
        have i0' : (k : Int) < (fs.length : Int) := by omega
        go_wp2
        go_ret
        exact ⟨_, gs, rfl, hown, hLR.below hbel (Nat.le_refl _), hbel⟩
    · obtain rfl : k = fs.length := by omega
      have hLR' : LRd w gs ((X.take mo).filter notE) := by
        rwa [HXL.out, List.take_length, ← List.take_of_length_le (l := X) (i := mo) (by rw [← HXL.out]; exact hkm)] at hLR
      clear hLR
      go_wp2
      go_ret
      exact ⟨_, gs, rfl, hown, hLR'.below hbel (Nat.le_refl _), hbel⟩

end Go.Proofs.Ytchfoioahgfjdaa
