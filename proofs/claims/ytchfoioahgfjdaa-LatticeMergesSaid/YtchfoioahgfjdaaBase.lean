/- Words for the seat: a fact's value, a manifest's value, loads of whole structs. -/
import Derived.Test.YtchfoioahgfjdaaRows
import Derived.WalkKit
import Derived.WalkSpells
import Derived.WalkLawsBesides
import Derived.Lib.Hide
import Derived.Deep.QuietTactic
import Derived.BigQuiet
import Derived.Test.YtchfoioahgfjdaaEqA
namespace Go.Proofs.Ytchfoioahgfjdaa
open Go.RowKit

/- Operations on whole structs, behind names of their own (so that the walk does not open them cell by cell). -/
@[irreducible] def ld (t : TypeId) (v : Value) : Sem Value := Instr.loadAt t v
@[irreducible] def st (t : TypeId) (p v : Value) : Sem Unit := Instr.storeAt t p v
@[irreducible] def bld (t : TypeId) (ps : Array (Nat × Value)) : Sem Value := Instr.build t ps
@[irreducible] def bldS (t : TypeId) (n : Nat) (ps : Array (Nat × Value)) : Sem Value := Instr.buildSlice t n ps
@[irreducible] def alc (t : TypeId) (h : Bool) (o : Value) : Sem Value := Instr.alloc t h o

theorem loadAt31 (v : Value) : Instr.loadAt 31 v = ld 31 v := by unfold ld; rfl
theorem loadAt29 (v : Value) : Instr.loadAt 29 v = ld 29 v := by unfold ld; rfl
theorem loadAt27 (v : Value) : Instr.loadAt 27 v = ld 27 v := by unfold ld; rfl
theorem storeAt31 (p v : Value) : Instr.storeAt 31 p v = st 31 p v := by unfold st; rfl
theorem build31 (ps) : Instr.build 31 ps = bld 31 ps := by unfold bld; rfl
theorem build29 (ps) : Instr.build 29 ps = bld 29 ps := by unfold bld; rfl
theorem build27 (ps) : Instr.build 27 ps = bld 27 ps := by unfold bld; rfl
theorem buildSlice23 (n ps) : Instr.buildSlice 23 n ps = bldS 23 n ps := by unfold bldS; rfl
theorem alloc31 (h o) : Instr.alloc 31 h o = alc 31 h o := by unfold alc; rfl

/-- a manifest's value -/
structure MV where
  size : Int
  chunk : Int
  ca : Option Addr
  cl : Nat
  cc : Nat
  whole : List Int
  hw : whole.length = 32

/-- a fact's value -/
structure FV where
  kind : Int
  epoch : Int
  node : Int
  m : MV

def MV.cells (m : MV) : List Value := [.int .i64 m.size, .int .i64 m.chunk, .slice m.ca m.cl m.cc] ++ m.whole.map (.int .u8)
def FV.cells (f : FV) : List Value := [.int .i64 f.kind, .int .i64 f.epoch, .int .i64 f.node] ++ f.m.cells
def MV.arr (m : MV) : Array Value := m.cells.toArray
def FV.arr (f : FV) : Array Value := f.cells.toArray

theorem MV.len (m : MV) : m.cells.length = 35 := by simp [MV.cells, m.hw]
theorem FV.len (f : FV) : f.cells.length = 38 := by simp [FV.cells, f.m.len]
@[go_sem] theorem MV.sz (m : MV) : m.arr.size = 35 := by simp [MV.arr, m.len]
@[go_sem] theorem FV.sz (f : FV) : f.arr.size = 38 := by simp [FV.arr, f.len]
@[go_sem] theorem FV.g0 (f : FV) (h : 0 < f.arr.size) : f.arr[0] = .int .i64 f.kind := by simp [FV.arr, FV.cells]
@[go_sem] theorem FV.g1 (f : FV) (h : 1 < f.arr.size) : f.arr[1] = .int .i64 f.epoch := by simp [FV.arr, FV.cells]
@[go_sem] theorem FV.g2 (f : FV) (h : 2 < f.arr.size) : f.arr[2] = .int .i64 f.node := by simp [FV.arr, FV.cells]
@[go_sem] theorem FV.g3 (f : FV) (h : 3 < f.arr.size) : f.arr[3] = .int .i64 f.m.size := by simp [FV.arr, FV.cells, MV.cells]
@[go_sem] theorem FV.g4 (f : FV) (h : 4 < f.arr.size) : f.arr[4] = .int .i64 f.m.chunk := by simp [FV.arr, FV.cells, MV.cells]
@[go_sem] theorem FV.g5 (f : FV) (h : 5 < f.arr.size) : f.arr[5] = .slice f.m.ca f.m.cl f.m.cc := by simp [FV.arr, FV.cells, MV.cells]
@[go_sem] theorem MV.g0 (m : MV) (h : 0 < m.arr.size) : m.arr[0] = .int .i64 m.size := by simp [MV.arr, MV.cells]
@[go_sem] theorem MV.g1 (m : MV) (h : 1 < m.arr.size) : m.arr[1] = .int .i64 m.chunk := by simp [MV.arr, MV.cells]
@[go_sem] theorem MV.g2 (m : MV) (h : 2 < m.arr.size) : m.arr[2] = .slice m.ca m.cl m.cc := by simp [MV.arr, MV.cells]

theorem isAgg31 (w : World) : (isAgg 31).run Try.prog w = .ok true w := by kernel_rfl
theorem isAgg29 (w : World) : (isAgg 29).run Try.prog w = .ok true w := by kernel_rfl
theorem isAgg27 (w : World) : (isAgg 27).run Try.prog w = .ok true w := by kernel_rfl
theorem sizeOf31 (w : World) : (sizeOf 31).run Try.prog w = .ok 38 w := by kernel_rfl
theorem sizeOf29 (w : World) : (sizeOf 29).run Try.prog w = .ok 35 w := by kernel_rfl
theorem sizeOf27 (w : World) : (sizeOf 27).run Try.prog w = .ok 32 w := by kernel_rfl

/-- The cells cs lie from a on. -/
def At (w : World) (a : Addr) (cs : List Value) : Prop := ∀ j v, cs[j]? = some v → w.cell? (a.add j) = some v

theorem run_lv (t : TypeId) (cs : List Value) (hagg : ∀ w, (isAgg t).run Try.prog w = .ok true w) (hsz : ∀ w, (sizeOf t).run Try.prog w = .ok cs.length w) (w : World) (a : Addr) (h : At w a cs) :
    (loadVar t a).run Try.prog w = .ok (.agg cs.toArray) w := by
  have hl : (loadCells a cs.length).run Try.prog w = .ok cs.toArray w := run_loadCells_list (P := Try.prog) w a cs h
  unfold loadVar
  simp [Sem.run_bind, hagg, hsz, hl]
theorem run_ld (t : TypeId) (cs : List Value) (hagg : ∀ w, (isAgg t).run Try.prog w = .ok true w) (hsz : ∀ w, (sizeOf t).run Try.prog w = .ok cs.length w) (w : World) (a : Addr) (h : At w a cs) :
    (ld t (.pointer (some a))).run Try.prog w = .ok (.agg cs.toArray) w := by
  have hl : (loadCells a cs.length).run Try.prog w = .ok cs.toArray w := run_loadCells_list (P := Try.prog) w a cs h
  unfold ld Instr.loadAt loadVar
  simp [Sem.run_bind, Instr.sureAddr, hagg, hsz, hl]

theorem run_ld31 (f : FV) (w : World) (a : Addr) (h : At w a f.cells) : (ld 31 (.pointer (some a))).run Try.prog w = .ok (.agg f.arr) w :=
  run_ld 31 f.cells isAgg31 (by rw [f.len]; exact sizeOf31) w a h
theorem run_lv31 (f : FV) (w : World) (a : Addr) (h : At w a f.cells) : (loadVar 31 a).run Try.prog w = .ok (.agg f.arr) w :=
  run_lv 31 f.cells isAgg31 (by rw [f.len]; exact sizeOf31) w a h
theorem run_ld29 (m : MV) (w : World) (a : Addr) (h : At w a m.cells) : (ld 29 (.pointer (some a))).run Try.prog w = .ok (.agg m.arr) w :=
  run_ld 29 m.cells isAgg29 (by rw [m.len]; exact sizeOf29) w a h
theorem run_ld27 (l : List Int) (hl : l.length = 32) (w : World) (a : Addr) (h : At w a (l.map (.int .u8))) : (ld 27 (.pointer (some a))).run Try.prog w = .ok (.agg (l.map (.int .u8)).toArray) w :=
  run_ld 27 _ isAgg27 (by rw [List.length_map, hl]; exact sizeOf27) w a h

theorem add_mk (b o j : Nat) : (⟨b, o, none⟩ : Addr).add j = ⟨b, o + j, none⟩ := by
  unfold Addr.add; split <;> simp_all

theorem at_new (w : World) (cs : List Value) (t : TypeId) : At (w.alloc (.cells cs.toArray t)) ⟨w.heap.size, 0, none⟩ cs := by
  intro j v hv
  rw [add_mk, cell_of_row _ _ _ _ _ _ (heap_alloc_new w _)]
  simpa using hv
theorem MV.at_new (m : MV) (w : World) (t : TypeId) : At (w.alloc (.cells m.arr t)) ⟨w.heap.size, 0, none⟩ m.cells := Ytchfoioahgfjdaa.at_new w m.cells t
theorem FV.at_new (f : FV) (w : World) (t : TypeId) : At (w.alloc (.cells f.arr t)) ⟨w.heap.size, 0, none⟩ f.cells := Ytchfoioahgfjdaa.at_new w f.cells t
/-- A part of what lies there. -/
theorem At.part {w : World} {b o : Nat} {a c d : List Value} (h : At w ⟨b, o, none⟩ (a ++ c ++ d)) : At w ⟨b, o + a.length, none⟩ c := by
  intro j v hv
  have := h (a.length + j) v (by rw [List.append_assoc, List.getElem?_append_right (by omega), Nat.add_sub_cancel_left]; rw [List.getElem?_append_left]; exact hv; exact (List.getElem?_eq_some_iff.1 hv).1)
  rw [add_mk] at this ⊢
  rw [Nat.add_assoc]; exact this
theorem FV.at_m {w : World} {b o : Nat} {f : FV} (h : At w ⟨b, o, none⟩ f.cells) : At w ⟨b, o + 3, none⟩ f.m.cells :=
  At.part (a := [.int .i64 f.kind, .int .i64 f.epoch, .int .i64 f.node]) (c := f.m.cells) (d := []) (by simpa [FV.cells] using h)
theorem MV.at_w {w : World} {b o : Nat} {m : MV} (h : At w ⟨b, o, none⟩ m.cells) : At w ⟨b, o + 3, none⟩ (m.whole.map (.int .u8)) :=
  At.part (a := [.int .i64 m.size, .int .i64 m.chunk, .slice m.ca m.cl m.cc]) (c := m.whole.map (.int .u8)) (d := []) (by simpa [MV.cells] using h)

/-- 32 bytes, as a value's cells. -/
def B32 (l : List Int) : Array Value := (l.map (Value.int .u8)).toArray
def Z32 : List Int := List.replicate 32 0
@[go_sem] theorem Z32_len : Z32.length = 32 := by decide
attribute [go_sem] MV.hw

theorem run_ld27' (l : List Int) (hl : l.length = 32) (w : World) (a : Addr) (h : At w a (l.map (.int .u8))) : (ld 27 (.pointer (some a))).run Try.prog w = .ok (.agg (B32 l)) w :=
  run_ld27 l hl w a h

theorem isAgg5 (w : World) : (isAgg 5).run Try.prog w = .ok false w := by kernel_rfl
theorem sizeOf5 (w : World) : (sizeOf 5).run Try.prog w = .ok 1 w := by kernel_rfl

@[go_sem high] theorem eql27 (xs ys : List Int) (hx : xs.length = 32) (hy : ys.length = 32) (w : World) :
    (binOp .eql 27 (.agg (B32 xs)) (.agg (B32 ys))).run Try.prog w = .ok (.bool (xs == ys)) w :=
  run_eql_arr 27 5 32 .u8 (by kernel_rfl) isAgg5 (by kernel_rfl) sizeOf5 xs ys hx hy w
@[go_sem high] theorem neq27 (xs ys : List Int) (hx : xs.length = 32) (hy : ys.length = 32) (w : World) :
    (binOp .neq 27 (.agg (B32 xs)) (.agg (B32 ys))).run Try.prog w = .ok (.bool (!(xs == ys))) w :=
  run_neq_arr 27 5 32 .u8 (by kernel_rfl) isAgg5 (by kernel_rfl) sizeOf5 xs ys hx hy w

/-- An array of zero bytes, built. -/
@[go_sem] theorem run_bld27 (w : World) : (bld 27 #[]).run Try.prog w = .ok (.agg (B32 Z32)) w := by
  unfold bld; kernel_rfl

/-- An empty manifest; a fact without one. -/
def MV0 : MV := ⟨0, 0, none, 0, 0, Z32, Z32_len⟩
def FV0 (a b c : Int) : FV := ⟨a, b, c, MV0⟩
@[go_sem] theorem run_bld29 (w : World) : (bld 29 #[]).run Try.prog w = .ok (.agg MV0.arr) w := by
  unfold bld; kernel_rfl
@[go_sem] theorem run_bld31_0 (w : World) : (bld 31 #[]).run Try.prog w = .ok (.agg (FV0 0 0 0).arr) w := by
  unfold bld; kernel_rfl
@[go_sem] theorem run_bld31_1 (a : Int) (w : World) : (bld 31 #[(0, .int .i64 a)]).run Try.prog w = .ok (.agg (FV0 a 0 0).arr) w := by
  unfold bld; kernel_rfl
@[go_sem] theorem run_bld31_2 (a b : Int) (w : World) : (bld 31 #[(0, .int .i64 a), (1, .int .i64 b)]).run Try.prog w = .ok (.agg (FV0 a b 0).arr) w := by
  unfold bld; kernel_rfl
@[go_sem] theorem run_bld31_3 (a b c : Int) (w : World) : (bld 31 #[(0, .int .i64 a), (1, .int .i64 b), (2, .int .i64 c)]).run Try.prog w = .ok (.agg (FV0 a b c).arr) w := by
  unfold bld; kernel_rfl
@[go_sem] theorem run_alc31 (w : World) : (alc 31 true (.tuple #[])).run Try.prog w = .ok (.pointer (some ⟨w.heap.size, 0, none⟩)) (w.alloc (.cells (FV0 0 0 0).arr 31)) := by
  unfold alc; kernel_rfl

attribute [go_sem ↓] loadAt31 loadAt29 loadAt27 storeAt31 build31 build29 build27 buildSlice23 alloc31

set_option maxHeartbeats 400000 in
theorem few_any (f : FV) (w : World) :
    Calls Try.prog 12 #[.agg f.arr] w fun r w' => r = .returned (.bool (decide (f.m.cl ≤ 100))) ∧ w' = w.alloc (.cells f.arr 31) := by
  go_enter Try.func12, Try.ntmps12
  go_wp2
  go_ret
  exact ⟨by simp; omega, rfl⟩

def noneM (m : MV) : Bool := m.size == 0 && m.chunk == 0 && m.cl == 0 && m.whole == Z32

set_option maxHeartbeats 400000 in
theorem none_any (m : MV) (w : World) :
    Calls Try.prog 34 #[.agg m.arr] w fun r w' => r = .returned (.bool (noneM m)) ∧ w' = w.alloc (.cells m.arr 29) := by
  have hl := run_ld27' m.whole m.hw _ _ (MV.at_w (m.at_new w 29))
  simp only [Nat.zero_add] at hl
  by_cases h1 : m.size = 0
  · by_cases h2 : m.chunk = 0
    · by_cases h3 : m.cl = 0
      · go_enter Try.func34, Try.ntmps34
        go_wp2
        go_ret
        exact ⟨by simp [noneM, h1, h2, h3], rfl⟩
      · go_enter Try.func34, Try.ntmps34
        go_wp2
        go_ret
        exact ⟨by simp [noneM, h1, h2, h3], rfl⟩
    · go_enter Try.func34, Try.ntmps34
      go_wp2
      go_ret
      exact ⟨by simp [noneM, h1, h2], rfl⟩
  · go_enter Try.func34, Try.ntmps34
    go_wp2
    go_ret
    exact ⟨by simp [noneM, h1], rfl⟩

/-! Memory -/
theorem At.below {w w' : World} {B : Nat} {a : Addr} {cs : List Value} (h : At w a cs) (hb : Below B w w') (ha : a.block < B) : At w' a cs := by
  intro j v hv
  have hab : (a.add j).block = a.block := by unfold Addr.add; split <;> rfl
  rw [hb.cell (p := a.add j) (by rw [hab]; exact ha)]; exact h j v hv
theorem At.alloc {w : World} {a : Addr} {cs : List Value} (h : At w a cs) (ha : a.block < w.heap.size) (o : Obj) : At (w.alloc o) a cs :=
  h.below ((Below.refl w.heap.size w).alloc (Nat.le_refl _) o) ha
theorem At.lt {w : World} {a : Addr} {cs : List Value} (h : At w a cs) (hne : cs ≠ []) : a.block < w.heap.size := by
  cases cs with
  | nil => exact absurd rfl hne
  | cons v l => have := h 0 v rfl; rw [Addr.add_zero'] at this; exact block_lt_of_cell this
theorem FV.ne (f : FV) : f.cells ≠ [] := by simp [FV.cells]
theorem MV.ne (f : MV) : f.cells ≠ [] := by simp [MV.cells]

end Go.Proofs.Ytchfoioahgfjdaa
