/- The references' Same: of manifests, of facts, of lists of facts. -/
import Derived.Test.YtchfoioahgfjdaaAwk
import Derived.Deep.RegionWith
namespace Go.Proofs.Ytchfoioahgfjdaa
open Go.RowKit

/-- Two manifests, with their chunks' bytes, are the same. -/
def eqM (a : MV) (xs : List Int) (b : MV) (ys : List Int) : Bool := a.size == b.size && a.chunk == b.chunk && a.whole == b.whole && a.cl == b.cl && xs == ys
def eqA (x y : AF) : Bool := eqM x.1.m x.2 y.1.m y.2 && x.1.kind == y.1.kind && x.1.epoch == y.1.epoch && x.1.node == y.1.node

/-- The k-th chunk's bytes. -/
def chk (ys : List Int) (k : Nat) : List Int := (ys.drop (32 * k)).take 32
theorem chk_len {ys : List Int} {n k : Nat} (h : ys.length = 32 * n) (hk : k < n) : (chk ys k).length = 32 := by simp [chk]; omega
theorem take_chk (ys : List Int) (k : Nat) : ys.take (32 * (k + 1)) = ys.take (32 * k) ++ chk ys k := by
  rw [chk, show 32 * (k + 1) = 32 * k + 32 by omega, List.take_add]
theorem MRd.elem {w : World} {m : MV} {ys : List Int} (h : MRd w m ys) {k : Nat} (hk : k < m.cl) : ∃ b o, m.ca = some ⟨b, o, none⟩ ∧ At w ⟨b, o + k * 32, none⟩ ((chk ys k).map (.int .u8)) := by
  obtain ⟨h0, h1, h2, h3, h4⟩ := h
  have hlen := chk_len h0 hk
  cases hca : m.ca with
  | none => have := h3 hca; omega
  | some a =>
    obtain ⟨b, o, s⟩ := a
    obtain ⟨_, hat⟩ := h4 _ hca
    have hs : s = none := hat.spot (by intro h; have : ys.length = 0 := by simpa using congrArg List.length h
                                       omega)
    subst hs
    refine ⟨b, o, rfl, ?_⟩
    have e : ys.map (Value.int .u8) = (ys.take (32 * k)).map (.int .u8) ++ (chk ys k).map (.int .u8) ++ (ys.drop (32 * (k + 1))).map (.int .u8) := by
      rw [← List.map_append, ← List.map_append, ← take_chk, List.take_append_drop]
    rw [e] at hat
    have := At.part hat
    rwa [List.length_map, List.length_take, Nat.min_eq_left (by omega), Nat.mul_comm] at this

/-- A block is the manifest m. -/
def MBlk (w : World) (g : Nat) (m : MV) : Prop := w.heap[g]? = some (.cells m.arr 29 (0, 0))
theorem MBlk.at {w : World} {g : Nat} {m : MV} (h : MBlk w g m) : At w ⟨g, 0, none⟩ m.cells := by
  intro j v hv
  rw [add_mk, cell_of_row _ _ _ _ _ _ h]
  simpa [MV.arr] using hv
theorem MBlk.below {w w' : World} {B g : Nat} {m : MV} (h : MBlk w g m) (hb : Below B w w') (hg : g < B) : MBlk w' g m := (hb.block g hg).trans h
theorem MBlk.new (w : World) (m : MV) : MBlk (w.alloc (.cells m.arr 29)) w.heap.size m := heap_alloc_new w _
theorem MBlk.alloc {w : World} {g : Nat} {m : MV} (h : MBlk w g m) (o : Obj) : MBlk (w.alloc o) g m :=
  h.below ((Below.refl w.heap.size w).alloc (Nat.le_refl _) o) (Array.getElem?_eq_some_iff.1 h).1
theorem MBlk.c0 {w : World} {g : Nat} {m : MV} (h : MBlk w g m) : w.cell? ⟨g, 0, none⟩ = some (.int .i64 m.size) := by rw [cell_of_row _ _ _ _ _ _ h]; simp [MV.arr, MV.cells]
theorem MBlk.c1 {w : World} {g : Nat} {m : MV} (h : MBlk w g m) : w.cell? ⟨g, 1, none⟩ = some (.int .i64 m.chunk) := by rw [cell_of_row _ _ _ _ _ _ h]; simp [MV.arr, MV.cells]
theorem MBlk.c2 {w : World} {g : Nat} {m : MV} (h : MBlk w g m) : w.cell? ⟨g, 2, none⟩ = some (.slice m.ca m.cl m.cc) := by rw [cell_of_row _ _ _ _ _ _ h]; simp [MV.arr, MV.cells]

theorem beq_f {α : Type} [BEq α] [LawfulBEq α] {a b : α} (h : a ≠ b) : (a == b) = false := by simp [h]
theorem beq_t {α : Type} [BEq α] [LawfulBEq α] {a b : α} (h : a = b) : (a == b) = true := by simp [h]

set_option maxHeartbeats 1600000 in
theorem same05_any (a : MV) (xs : List Int) (b : MV) (ys : List Int) (w : World) (ha : MRd w a xs) (hb : MRd w b ys) :
    Calls Try.prog 41 #[.agg a.arr, .agg b.arr] w fun r w' => r = .returned (.bool (eqM a xs b ys)) ∧ Below w.heap.size w w' := by
  have hbw : Below w.heap.size w ((w.alloc (.cells a.arr 29)).alloc (.cells b.arr 29)) := ((Below.refl _ _).al _).al _
  have hA := ha.below hbw (Nat.le_refl _)
  have hB := hb.below hbw (Nat.le_refl _)
  have hba := (MBlk.new w a).alloc (.cells b.arr 29)
  have hbb := MBlk.new (w.alloc (.cells a.arr 29)) b
  rw [World.size_alloc] at hbb
  have hsz : ((w.alloc (.cells a.arr 29)).alloc (.cells b.arr 29)).heap.size = w.heap.size + 2 := by simp
  have hwa := run_ld27' a.whole a.hw _ _ (MV.at_w hba.at)
  have hwb := run_ld27' b.whole b.hw _ _ (MV.at_w hbb.at)
  simp only [Nat.zero_add] at hwa hwb
  have ca0 := hba.c0
  have ca1 := hba.c1
  have ca2 := hba.c2
  have cb0 := hbb.c0
  have cb1 := hbb.c1
  have cb2 := hbb.c2
  have HF : Hid ((eqM a xs b ys = (a.size == b.size && a.chunk == b.chunk && a.whole == b.whole && a.cl == b.cl && xs == ys))) := rfl
  by_cases h1 : a.size = b.size
  rotate_left
  · have H : Hid (eqM a xs b ys = false) := by unfold Hid eqM; rw [beq_f h1]; rfl
    go_enter Try.func41, Try.ntmps41
    go_wp2
    go_ret
    exact ⟨by rw [H.out]; rfl, hbw⟩
  by_cases h2 : a.chunk = b.chunk
  rotate_left
  · have H : Hid (eqM a xs b ys = false) := by unfold Hid eqM; rw [beq_f h2]; simp
    go_enter Try.func41, Try.ntmps41
    go_wp2
    go_ret
    exact ⟨by rw [H.out]; rfl, hbw⟩
  by_cases h3 : a.whole = b.whole
  rotate_left
  · have H : Hid (eqM a xs b ys = false) := by unfold Hid eqM; rw [beq_f h3]; simp
    have h3' := beq_f h3
    go_enter Try.func41, Try.ntmps41
    go_wp2
    go_ret
    exact ⟨by rw [H.out]; rfl, hbw⟩
  have h3' := beq_t h3
  by_cases h4 : a.cl = b.cl
  rotate_left
  · have H : Hid (eqM a xs b ys = false) := by unfold Hid eqM; rw [beq_f h4]; simp
    go_enter Try.func41, Try.ntmps41
    go_wp2
    go_ret
    exact ⟨by rw [H.out]; rfl, hbw⟩
  have hal := ha.1
  have hbl := hb.1
  have HEQ : Hid (eqM a xs b ys = (xs == ys)) := by unfold Hid eqM; rw [h1, h2, h3, h4]; simp
  have hccA := ha.2.1
  have hccA2 := ha.2.2.1
  have hccB := hb.2.1
  have hccB2 := hb.2.2.1
  have hb9 : a.cl ≤ 9223372036854775807 := by unfold maxLen at hccA2; omega
  clear HF
  go_enter Try.func41, Try.ntmps41
  go_wp2
  generalize hw1 : (w.alloc (.cells a.arr 29)).alloc (.cells b.arr 29) = w1 at *
  clear ca0 ca1 cb0 cb1 hwa hwb hw1
  go_loopw [5] (fun i wr => ∃ k : Nat, k ≤ a.cl ∧ i = .int .i64 k ∧ xs.take (32 * k) = ys.take (32 * k) ∧ Below w1.heap.size w1 wr)
    (fun i _ => a.cl - (intOf i).toNat)
  case atStart => exact ⟨0, Nat.zero_le _, rfl, by simp, Below.refl _ _⟩
  case round =>
    obtain ⟨k, hk, rfl, hpre, hbel⟩ := hrel
    have da2 : wr.cell? ⟨w.heap.size, 2, none⟩ = some (.slice a.ca a.cl a.cc) := (hbel.cell (by simp; omega)).trans ca2
    have db2 : wr.cell? ⟨w.heap.size + 1, 2, none⟩ = some (.slice b.ca b.cl b.cc) := (hbel.cell (by simp; omega)).trans cb2
    by_cases hlt : k < a.cl
    · obtain ⟨ba, oa, ea, hata⟩ := (hA.below hbel (Nat.le_refl _)).elem hlt
      obtain ⟨bb, ob, eb, hatb⟩ := (hB.below hbel (Nat.le_refl _)).elem (k := k) (by omega)
      rw [ea] at da2
      rw [eb] at db2
      have hla := fun n => run_ld27' (chk xs k) (chk_len hal hlt) _ _ (hata.below (below_drewN (Below.refl (wr.heap.size) _) n) (hata.lt (by intro h; have := congrArg List.length h; simp [chk_len hal hlt] at this)))
      have hlb := fun n => run_ld27' (chk ys k) (chk_len hbl (by omega)) _ _ (hatb.below (below_drewN (Below.refl (wr.heap.size) _) n) (hatb.lt (by intro h; have := congrArg List.length h; simp [chk_len hbl (show k < b.cl by omega)] at this)))
      have hca := chk_len hal hlt
      have hcb := chk_len hbl (show k < b.cl by omega)
      have i1 : (k : Int) < (a.cl : Int) := by omega
      have i2 : (k : Int) < (b.cl : Int) := by omega
      cases he : chk xs k == chk ys k with
      | true =>
        have HE := Lib.hid he
        have HP := Lib.hid hpre
        clear hpre
        go_wp2
        go_quiet (fail)
        go_wp2
        go_roundw
        case rel => exact ⟨k + 1, by omega, by simp, by rw [take_chk, take_chk, HP.out, eq_of_beq HE.out], below_drewN hbel _⟩
        case measure => simp [intOf]; omega
      | false =>
        have HE : Hid (eqM a xs b ys = false) := by
          unfold Hid; rw [HEQ.out]
          refine beq_f fun h => ?_
          rw [h] at he; simp at he
        clear hpre
        go_wp2
        go_quiet (fail)
        go_wp2
        go_ret
        exact ⟨by rw [HE.out]; rfl, hbw.trans (below_drewN (hbel.mono (by omega)) _)⟩
    · obtain rfl : k = a.cl := by omega
      have HE : Hid (eqM a xs b ys = true) := by
        unfold Hid; rw [HEQ.out]
        rw [List.take_of_length_le (by omega), List.take_of_length_le (by omega)] at hpre
        exact beq_t hpre
      clear hpre
      go_wp2
      go_ret
      exact ⟨by rw [HE.out]; rfl, hbw.trans (hbel.mono (by omega))⟩

theorem FBlk.kd {w : World} {g : Nat} {f : FV} (h : FBlk w g f) : w.cell? ⟨g, 0, none⟩ = some (.int .i64 f.kind) := by
  rw [h.cell]; simp [FV.arr, FV.cells]

set_option maxHeartbeats 1600000 in
theorem same10_any (f : FV) (xs : List Int) (g : FV) (ys : List Int) (w : World) (ha : MRd w f.m xs) (hb : MRd w g.m ys) :
    Calls Try.prog 25 #[.agg f.arr, .agg g.arr] w fun r w' => r = .returned (.bool (eqA (f, xs) (g, ys))) ∧ Below w.heap.size w w' := by
  have hbw : Below w.heap.size w ((w.alloc (.cells f.arr 31)).alloc (.cells g.arr 31)) := ((Below.refl _ _).al _).al _
  have hA := ha.below hbw (Nat.le_refl _)
  have hB := hb.below hbw (Nat.le_refl _)
  have hba := (FBlk.new w f).alloc (.cells g.arr 31)
  have hbb := FBlk.new (w.alloc (.cells f.arr 31)) g
  rw [World.size_alloc] at hbb
  have hsz : ((w.alloc (.cells f.arr 31)).alloc (.cells g.arr 31)).heap.size = w.heap.size + 2 := by simp
  have hla := run_ld29 f.m _ _ (FV.at_m hba.at)
  have hlb := run_ld29 g.m _ _ (FV.at_m hbb.at)
  simp only [Nat.zero_add] at hla hlb
  have HQ : Hid (eqA (f, xs) (g, ys) = (eqM f.m xs g.m ys && f.kind == g.kind && f.epoch == g.epoch && f.node == g.node)) := rfl
  go_enter Try.func25, Try.ntmps25
  go_wp2_with fail
  refine (same05_any f.m xs g.m ys _ hA hB).mono ?_
  rintro e w1 ⟨rfl, hb1⟩
  have hb2 : Below w.heap.size w w1 := hbw.trans (hb1.mono (by omega))
  have ka := FBlk.kd (hba.below hb1 (by omega))
  have kb := FBlk.kd (hbb.below hb1 (by omega))
  have ea := FV.ep (hba.below hb1 (by omega))
  have eb := FV.ep (hbb.below hb1 (by omega))
  have na := FV.nd (hba.below hb1 (by omega))
  have nb := FV.nd (hbb.below hb1 (by omega))
  clear hla hlb
  cases hm : eqM f.m xs g.m ys with
  | false =>
    rw [hm] at HQ
    have H : Hid (eqA (f, xs) (g, ys) = false) := by unfold Hid; rw [HQ.out]; rfl
    go_wp2
    go_ret
    exact ⟨by rw [H.out]; rfl, hb2⟩
  | true =>
    rw [hm] at HQ
    by_cases h1 : f.kind = g.kind
    rotate_left
    · have H : Hid (eqA (f, xs) (g, ys) = false) := by unfold Hid; rw [HQ.out, beq_f h1]; rfl
      go_wp2
      go_ret
      exact ⟨by rw [H.out]; rfl, hb2⟩
    by_cases h2 : f.epoch = g.epoch
    rotate_left
    · have H : Hid (eqA (f, xs) (g, ys) = false) := by unfold Hid; rw [HQ.out, beq_f h2]; simp
      go_wp2
      go_ret
      exact ⟨by rw [H.out]; rfl, hb2⟩
    by_cases h3 : f.node = g.node
    · have H : Hid (eqA (f, xs) (g, ys) = true) := by unfold Hid; rw [HQ.out, h1, h2, h3]; simp
      go_wp2
      go_ret
      exact ⟨by rw [H.out]; rfl, hb2⟩
    · have H : Hid (eqA (f, xs) (g, ys) = false) := by unfold Hid; rw [HQ.out, beq_f h3]; simp
      have h3' := beq_f h3
      go_wp2
      go_ret
      exact ⟨by rw [H.out]; rfl, hb2⟩

/-- Two lists of facts are the same. -/
def eqL (X Y : List AF) : Bool := X.length == Y.length && (X.zip Y).all fun p => eqA p.1 p.2
theorem eqA_n {f g : FV} {x y : AF} (hf : norm f = norm x.1) (hg : norm g = norm y.1) : eqA (f, x.2) (g, y.2) = eqA x y := by
  have e : ∀ (f g : FV) (xs ys : List Int), eqA (f, xs) (g, ys) = eqA (norm f, xs) (norm g, ys) := fun _ _ _ _ => rfl
  rw [e f g, hf, hg, ← e]
theorem zip_get {X Y : List AF} {k : Nat} {x y : AF} (hx : X[k]? = some x) (hy : Y[k]? = some y) : (X.zip Y)[k]? = some (x, y) := by
  rw [List.getElem?_zip_eq_some]; exact ⟨hx, hy⟩

set_option maxHeartbeats 1600000 in
theorem same11_any (va : Option Addr) (n cap : Nat) (fs : List FV) (X : List AF) (vb : Option Addr) (m capb : Nat) (gs : List FV) (Y : List AF) (w : World) (ha : FSl w (.slice va n cap) fs) (hX : LRd w fs X)
    (hb : FSl w (.slice vb m capb) gs) (hY : LRd w gs Y) :
    Calls Try.prog 13 #[.slice va n cap, .slice vb m capb] w fun r w' => r = .returned (.bool (eqL X Y)) ∧ Below w.heap.size w w' := by
  obtain ⟨rfl, hn2, hn3, hn4⟩ := ha.len
  obtain ⟨hm, hm2, hm3, hm4⟩ := hb.len
  have hlx := hX.len
  have hly := hY.len
  by_cases hl : fs.length = gs.length
  rotate_left
  · subst hm
    have H : Hid (eqL X Y = false) := by unfold Hid eqL; rw [beq_f (by omega)]; rfl
    go_enter Try.func13, Try.ntmps13
    go_wp2
    go_ret
    exact ⟨by rw [H.out]; rfl, Below.refl _ _⟩
  have HEQ : Hid (eqL X Y = ((X.zip Y).all fun p => eqA p.1 p.2)) := by unfold Hid eqL; rw [beq_t (by omega)]; rfl
  have hzl : Hid ((X.zip Y).length = X.length) := by unfold Hid; rw [List.length_zip]; omega
  obtain rfl : m = fs.length := by omega
  have HL := Lib.hid (And.intro hlx (And.intro hly hl))
  clear hlx hly hl hm
  have hb9 : fs.length ≤ 9223372036854775807 := by unfold maxLen at hn3; omega
  go_enter Try.func13, Try.ntmps13
  go_wp2
  go_loopw [5] (fun i wr => ∃ k : Nat, k ≤ fs.length ∧ i = .int .i64 k ∧ (((X.zip Y).take k).all fun p => eqA p.1 p.2) = true ∧ Below w.heap.size w wr)
    (fun i _ => fs.length - (intOf i).toNat)
  case atStart => exact ⟨0, Nat.zero_le _, rfl, by simp, Below.refl _ _⟩
  case round =>
    obtain ⟨k, hk, rfl, hpre, hbel⟩ := hrel
    have HP := Lib.hid hpre
    clear hpre
    by_cases hlt : k < fs.length
    · obtain ⟨f, hfk⟩ : ∃ f, fs[k]? = some f := ⟨_, List.getElem?_eq_getElem hlt⟩
      obtain ⟨g, hgk⟩ : ∃ g, gs[k]? = some g := ⟨_, List.getElem?_eq_getElem (by have := HL.out; omega)⟩
      obtain ⟨x, hx, hfx⟩ := hX.get k f hfk
      obtain ⟨y, hy, hgy⟩ := hY.get k g hgk
      obtain ⟨ba, oa, rfl, hata⟩ := (ha.below hbel (Nat.le_refl _)).elem hfk
      obtain ⟨bb, ob, rfl, hatb⟩ := (hb.below hbel (Nat.le_refl _)).elem hgk
      have hla := run_ld31 f wr.drew _ (hata.below (Below.refl (wr.heap.size) _).drew (hata.lt f.ne))
      have hlb := run_ld31 g wr.drew _ (hatb.below (Below.refl (wr.heap.size) _).drew (hatb.lt g.ne))
      have hma := hfx.2.below hbel.drew (Nat.le_refl _)
      have hmb := hgy.2.below hbel.drew (Nat.le_refl _)
      have i1 : (k : Int) < (fs.length : Int) := by omega
      have HZ := Lib.hid (zip_get hx hy)
      have HA := Lib.hid (eqA_n hfx.1 hgy.1)
      clear hata hatb hfk hgk hx hy hfx hgy
      go_wp2
      go_region_with (go_at_call 25; refine (same10_any f x.2 g y.2 _ hma hmb).mono ?_; rintro e w1 ⟨rfl, hb1⟩; rw [HA.out])
      all_goals
        have hbel2 : Below w.heap.size w w1 := hbel.trans ((Below.refl _ _).drew.trans (hb1.mono hbel.drew.size))
        cases he : eqA x y with
        | true =>
          have HE := Lib.hid he
          clear he hb1
          go_wp2
          go_roundw
          case rel => exact ⟨k + 1, by omega, by simp, by rw [take_snoc' HZ.out, List.all_append, HP.out]; simp [HE.out], hbel2⟩
          case measure => simp [intOf]; omega
        | false =>
          have HE : Hid (eqL X Y = false) := by
            unfold Hid; rw [HEQ.out]
            exact List.all_eq_false.2 ⟨_, List.mem_of_getElem? HZ.out, by simp [he]⟩
          clear he hb1
          go_wp2
          go_ret
          exact ⟨by rw [HE.out]; rfl, hbel2⟩
    · obtain rfl : k = fs.length := by omega
      have HE : Hid (eqL X Y = true) := by
        unfold Hid; rw [HEQ.out]
        have := HP.out
        rwa [List.take_of_length_le (by rw [hzl.out]; have := HL.out; omega)] at this
      go_wp2
      go_ret
      exact ⟨by rw [HE.out]; rfl, hbel⟩

end Go.Proofs.Ytchfoioahgfjdaa
