/- What comes in, opened: a fact; a slice of facts. And how a law's row is shut. -/
import Derived.Test.YtchfoioahgfjdaaAwk
import Derived.Deep.Slices
import Derived.ProofKit
import Derived.OpenShut
import Derived.ShutString
import Derived.ChangeOld
namespace Go.Proofs.Ytchfoioahgfjdaa
open Go.ChangeShapes Go.WideShapes Go.ChangeAt Go.RowKit

theorem Try.cells27 : Try.prog.cellsOf 27 = 32 := by kernel_rfl
theorem Try.cells31 : Try.prog.cellsOf 31 = 38 := by kernel_rfl
theorem Try.cells29 : Try.prog.cellsOf 29 = 35 := by kernel_rfl
theorem Try.cells5 : Try.prog.cellsOf 5 = 1 := by kernel_rfl
theorem Try.fields31 : ∃ fs : Array Field, Try.prog.underlying 31 = some (.struct fs) ∧ (fs[0]?.map fun f : Field => (f.type, f.offset)) = some (3, 0) ∧ (fs[1]?.map fun f : Field => (f.type, f.offset)) = some (2, 1) ∧
    (fs[2]?.map fun f : Field => (f.type, f.offset)) = some (3, 2) ∧ (fs[3]?.map fun f : Field => (f.type, f.offset)) = some (29, 3) :=
  ⟨_, Try.underlying31, by kernel_rfl, by kernel_rfl, by kernel_rfl, by kernel_rfl⟩
theorem Try.fields29 : ∃ fs : Array Field, Try.prog.underlying 29 = some (.struct fs) ∧ (fs[0]?.map fun f : Field => (f.type, f.offset)) = some (3, 0) ∧ (fs[1]?.map fun f : Field => (f.type, f.offset)) = some (3, 1) ∧
    (fs[2]?.map fun f : Field => (f.type, f.offset)) = some (26, 2) ∧ (fs[3]?.map fun f : Field => (f.type, f.offset)) = some (27, 3) :=
  ⟨_, Try.underlying29, by kernel_rfl, by kernel_rfl, by kernel_rfl, by kernel_rfl⟩

section
variable {H : Type} {enc : TypeId × Value → H} {w : World} {sp : Nat → Bool} {held : Bool}

theorem field_at {fs : Array Field} {i : Nat} {t o : Nat} (h : (fs[i]?.map fun f : Field => (f.type, f.offset)) = some (t, o)) : ∃ f, fs[i]? = some f ∧ f.type = t ∧ f.offset = o := by
  cases hf : fs[i]? with
  | none => rw [hf] at h; simp at h
  | some f => rw [hf] at h; simp at h; exact ⟨f, rfl, h.1, h.2⟩
theorem struct_at {t : TypeId} {fs : Array Field} {fuel : Nat} {cs : List Value} {x : DataW H × List MemPlace} (ht : Try.prog.underlying t = some (.struct fs)) (h : DataW.trod enc Try.prog w 0 sp held fuel t cs = some x) :
    cs.length = Try.prog.cellsOf t ∧ ∃ n, ∀ (i ti o : Nat), (fs[i]?.map fun f : Field => (f.type, f.offset)) = some (ti, o) → ∃ y, DataW.trod enc Try.prog w 0 sp held n ti ((cs.drop o).take (Try.prog.cellsOf ti)) = some y := by
  obtain ⟨xs, n, _, _, hl, hlen, hf⟩ := DataW.trod_struct ht h
  refine ⟨hl, n, fun i ti o hi => ?_⟩
  obtain ⟨f, h1, rfl, rfl⟩ := field_at hi
  have := hf i f h1
  have hlt : i < xs.length := by rw [hlen]; exact (Array.getElem?_eq_some_iff.1 h1).1
  rw [List.getElem?_eq_getElem hlt] at this
  exact ⟨_, this⟩

theorem bytes_of (l : List Value) (h : ∀ i, i < l.length → ∃ b : Int, l[i]? = some (.int .u8 b)) : ∃ bs : List Int, l = bs.map (.int .u8) := by
  induction l with
  | nil => exact ⟨[], rfl⟩
  | cons v l ih =>
    obtain ⟨b, hb⟩ := h 0 (by simp)
    simp at hb
    obtain ⟨bs, hbs⟩ := ih fun i hi => by have := h (i + 1) (by simpa using hi); simpa using this
    exact ⟨b :: bs, by rw [hb, hbs]; rfl⟩

theorem list_at {l : List Value} {i : Nat} {v : Value} (h : (l.drop i).take 1 = [v]) : l[i]? = some v := by
  have : (List.take 1 (l.drop i))[0]? = some v := by rw [h]; rfl
  rw [List.getElem?_take] at this
  simpa using this

theorem hash_open {fuel : Nat} {cs : List Value} {x : DataW H × List MemPlace} (h : DataW.trod enc Try.prog w 0 sp held fuel 27 cs = some x) : ∃ bs : List Int, bs.length = 32 ∧ cs = bs.map (.int .u8) := by
  obtain ⟨xs, m, _, _, hl, hlen, hx⟩ := DataW.trod_array Try.underlying27 h
  rw [Try.cells27] at hl
  obtain ⟨bs, rfl⟩ := bytes_of cs fun i hi => by
    have h1 := hx i (by omega)
    rw [Try.cells5, Nat.mul_one, List.getElem?_eq_getElem (by omega)] at h1
    obtain ⟨n, h2, _, _⟩ := DataW.trod_int Try.underlying5 h1
    refine ⟨n, ?_⟩
    exact list_at h2
  exact ⟨bs, by simpa using hl, rfl⟩

theorem chunks_open {fuel : Nat} {v : Value} {x : DataW H × List MemPlace} (h : DataW.trod enc Try.prog w 0 (fun _ => true) held fuel 26 [v] = some x) :
    ∃ (ca : Option Addr) (cl cc : Nat) (bs : List Int), v = .slice ca cl cc ∧ bs.length = 32 * cl ∧ cl ≤ cc ∧ cc ≤ maxLen ∧ (ca = none → cc = 0) ∧ ∀ a, ca = some a → True ∧ At w a (bs.map (.int .u8)) := by
  rcases Deep.open_slice Try.underlying26 h with ⟨h0, _⟩ | ⟨a, len, cap, m, n, D, Pl, h0, _, hl, hm, hmm, _, hx⟩
  · simp at h0; subst h0
    exact ⟨none, 0, 0, [], rfl, rfl, Nat.le_refl _, by simp, fun _ => rfl, fun a ha => by cases ha⟩
  · simp at h0; subst h0
    have key : ∀ k, k ≤ len → ∃ bs : List Int, bs.length = 32 * k ∧ At w a (bs.map (.int .u8)) := by
      intro k
      induction k with
      | zero => intro _; exact ⟨[], rfl, fun j v hv => by simp at hv⟩
      | succ k ih =>
        intro hk
        obtain ⟨bs, hb, hat⟩ := ih (by omega)
        obtain ⟨cs', h1, h2⟩ := hx k (by simp at hmm; omega)
        obtain ⟨b2, hb2, rfl⟩ := hash_open h2
        rw [Try.cells27] at h1
        obtain ⟨_, hl', hc⟩ := World.cells?_some h1
        refine ⟨bs ++ b2, by rw [List.length_append, hb, hb2]; omega, ?_⟩
        rw [List.map_append]
        intro j v hv
        rcases Nat.lt_or_ge j (bs.map (Value.int .u8)).length with hj | hj
        · rw [List.getElem?_append_left hj] at hv; exact hat j v hv
        · rw [List.getElem?_append_right hj] at hv
          have hj' : j - (bs.map (Value.int .u8)).length < 32 := by
            have := (List.getElem?_eq_some_iff.1 hv).1; simp only [List.length_map] at this ⊢; omega
          have := hc _ hj'
          rw [hv, Deep.add_add, List.length_map, hb] at this
          rw [List.length_map, hb] at hj
          rwa [show k * 32 + (j - 32 * k) = j by omega] at this
    obtain ⟨bs, hb, hat⟩ := key len (Nat.le_refl _)
    exact ⟨some a, len, cap, bs, rfl, hb, hl, hm, fun h => (by cases h), fun x hx => by cases hx; exact ⟨trivial, hat⟩⟩

theorem man_open {fuel : Nat} {cs : List Value} {x : DataW H × List MemPlace} (h : DataW.trod enc Try.prog w 0 (fun _ => true) held fuel 29 cs = some x) : ∃ (m : MV) (bs : List Int), cs = m.cells ∧ MRd w m bs := by
  obtain ⟨fs, hu, f0, f1, f2, f3⟩ := Try.fields29
  obtain ⟨hl, n, hf⟩ := struct_at hu h
  rw [Try.cells29] at hl
  obtain ⟨y0, h0⟩ := hf 0 _ _ f0
  obtain ⟨y1, h1⟩ := hf 1 _ _ f1
  obtain ⟨y2, h2⟩ := hf 2 _ _ f2
  obtain ⟨y3, h3⟩ := hf 3 _ _ f3
  obtain ⟨a0, e0, _, _⟩ := DataW.trod_int Try.underlying3 h0
  obtain ⟨a1, e1, _, _⟩ := DataW.trod_int Try.underlying3 h1
  obtain ⟨wh, hwl, e3⟩ := hash_open h3
  have hc1 : Try.prog.cellsOf 3 = 1 := by kernel_rfl
  have hc2 : Try.prog.cellsOf 26 = 1 := by kernel_rfl
  rw [hc1] at e0 e1
  rw [hc2] at h2
  rw [Try.cells27] at e3
  obtain ⟨v2, e2⟩ : ∃ v2, (cs.drop 2).take 1 = [v2] := by
    rw [List.drop_eq_getElem_cons (by omega)]; exact ⟨_, rfl⟩
  rw [e2] at h2
  obtain ⟨ca, cl, cc, bs, rfl, hm⟩ := chunks_open h2
  refine ⟨⟨a0, a1, ca, cl, cc, wh, hwl⟩, bs, ?_, hm⟩
  have g0 := list_at e0
  have g1 := list_at e1
  have g2 := list_at e2
  match cs, hl with
  | c0 :: c1 :: c2 :: r, hl =>
    simp at g0 g1 g2 e3
    simp at hl
    subst g0 g1 g2
    simp only [MV.cells, List.cons_append, List.nil_append]
    rw [← e3, List.take_of_length_le (by omega)]

theorem fact_open {fuel : Nat} {cs : List Value} {x : DataW H × List MemPlace} (h : DataW.trod enc Try.prog w 0 (fun _ => true) held fuel 31 cs = some x) : ∃ (f : FV) (bs : List Int), cs = f.cells ∧ MRd w f.m bs := by
  obtain ⟨fs, hu, f0, f1, f2, f3⟩ := Try.fields31
  obtain ⟨hl, n, hf⟩ := struct_at hu h
  rw [Try.cells31] at hl
  obtain ⟨y0, h0⟩ := hf 0 _ _ f0
  obtain ⟨y1, h1⟩ := hf 1 _ _ f1
  obtain ⟨y2, h2⟩ := hf 2 _ _ f2
  obtain ⟨y3, h3⟩ := hf 3 _ _ f3
  obtain ⟨a0, e0, _, _⟩ := DataW.trod_int Try.underlying3 h0
  obtain ⟨a1, e1, _, _⟩ := DataW.trod_int Try.underlying2 h1
  obtain ⟨a2, e2, _, _⟩ := DataW.trod_int Try.underlying3 h2
  obtain ⟨m, bs, e3, hm⟩ := man_open h3
  have hc1 : Try.prog.cellsOf 3 = 1 := by kernel_rfl
  have hc2 : Try.prog.cellsOf 2 = 1 := by kernel_rfl
  rw [hc1] at e0 e2
  rw [hc2] at e1
  rw [Try.cells29] at e3
  refine ⟨⟨a0, a1, a2, m⟩, bs, ?_, hm⟩
  have g0 := list_at e0
  have g1 := list_at e1
  have g2 := list_at e2
  match cs, hl with
  | c0 :: c1 :: c2 :: r, hl =>
    simp at g0 g1 g2 e3
    simp at hl
    subst g0 g1 g2
    simp only [FV.cells, List.cons_append, List.nil_append]
    rw [← e3, List.take_of_length_le (by omega)]

/-- A slice of facts that came in. -/
theorem facts_open {v : Value} {d : DataW H} {p : List MemPlace} {base : Nat} (hv : Value.okWide Try.prog w .any base 23 v) (h : DataW.Trod enc Try.prog w 0 (fun _ => true) held 23 v d p) :
    ∃ (va : Option Addr) (n cap : Nat) (fs : List FV) (X : List AF), v = .slice va n cap ∧ FSl w (.slice va n cap) fs ∧ LRd w fs X := by
  obtain ⟨a0, len, cap, rfl⟩ := okWide_slice Try.underlying23 hv
  obtain ⟨fuel, hf⟩ := h
  refine ⟨a0, len, cap, ?_⟩
  rcases Deep.open_slice Try.underlying23 hf with ⟨h0, _⟩ | ⟨a, len', cap', m, n, D, Pl, h0, _, hl, hm, hmm, _, hx⟩
  · simp [Value.cells] at h0
    obtain ⟨rfl, rfl, rfl⟩ := h0
    exact ⟨[], [], rfl, FSl.nil _, trivial⟩
  · simp [Value.cells] at h0
    obtain ⟨rfl, rfl, rfl⟩ := h0
    have key : ∀ k, k ≤ len → ∃ (fs : List FV) (X : List AF), fs.length = k ∧ At w a (flat fs) ∧ LRd w fs X := by
      intro k
      induction k with
      | zero => intro _; exact ⟨[], [], rfl, fun j v hv => by simp [flat] at hv, trivial⟩
      | succ k ih =>
        intro hk
        obtain ⟨fs, X, hb, hat, hX⟩ := ih (by omega)
        obtain ⟨cs', h1, h2⟩ := hx k (by simp at hmm; omega)
        obtain ⟨f, bs, rfl, hmr⟩ := fact_open h2
        rw [Try.cells31] at h1
        obtain ⟨_, hl', hc⟩ := World.cells?_some h1
        refine ⟨fs ++ [f], X ++ [(f, bs)], by simp [hb], ?_, hX.append (gs := [f]) (Y := [(f, bs)]) ⟨⟨rfl, hmr⟩, trivial⟩⟩
        rw [flat_append, flat_one]
        intro j v hv
        rcases Nat.lt_or_ge j (flat fs).length with hj | hj
        · rw [List.getElem?_append_left hj] at hv; exact hat j v hv
        · rw [List.getElem?_append_right hj] at hv
          have hj' : j - (flat fs).length < 38 := by
            have := (List.getElem?_eq_some_iff.1 hv).1; rwa [f.len] at this
          have := hc _ hj'
          rw [hv, Deep.add_add, flat_len, hb] at this
          rw [flat_len, hb] at hj
          rwa [show k * 38 + (j - k * 38) = j by omega] at this
    obtain ⟨fs, X, hb, hat, hX⟩ := key len (Nat.le_refl _)
    subst hb
    exact ⟨fs, X, rfl, ⟨some a, cap, rfl, hl, hm, fun h => (by cases h), fun x hx => by cases hx; exact ⟨trivial, hat⟩⟩, hX⟩

/-- A fact that came in. -/
theorem fact1_open {v : Value} {d : DataW H} {p : List MemPlace} {base : Nat} (hv : Value.okWide Try.prog w .any base 31 v) (h : DataW.Trod enc Try.prog w 0 (fun _ => true) held 31 v d p) :
    ∃ (f : FV) (bs : List Int), v = .agg f.arr ∧ MRd w f.m bs := by
  obtain ⟨cs, rfl, _⟩ := okWide_struct Try.underlying31 hv
  obtain ⟨fuel, hf⟩ := h
  obtain ⟨f, bs, e, hm⟩ := fact_open hf
  refine ⟨f, bs, ?_, hm⟩
  have : cs = f.arr := by
    apply Array.ext'
    simpa [Value.cells, FV.arr] using e
  rw [this]

theorem laidOut : laidOutB Try.prog = true := by kernel_rfl

/-- The arguments, read again where below the old memory nothing has turned. -/
theorem trodAll_below {W W' : World} (hb : Below W.heap.size W W') : ∀ (ts : List TypeId) (vs : List Value) (ds : List (DataW H)) (ps : List MemPlace), (ts.all fun t => Try.prog.readableRec t && decide (t < Try.prog.types.size)) = true →
    DataW.TrodAll enc Try.prog W 0 (fun _ => true) true ts vs ds ps → (∀ x ∈ ps, x.block < W.heap.size) → DataW.TrodAll enc Try.prog W' 0 (fun b => decide (b < W.heap.size)) true ts vs ds ps := by
  intro ts
  induction ts with
  | nil =>
    intro vs ds ps _ h _
    obtain ⟨rfl, rfl, rfl⟩ := trodAll_nil h
    exact trodAll_mk0
  | cons t ts ih =>
    intro vs ds ps ht h hp
    simp only [List.all_cons, Bool.and_eq_true, decide_eq_true_eq] at ht
    obtain ⟨v0, vs0, d0, ds0, p0, q0, rfl, rfl, rfl, h0, r0⟩ := trodAll_cons h
    exact trodAll_cons_mk (Below.trod laidOut ht.1.1 ht.1.2 h0 hb fun x hx => hp x (List.mem_append_left _ hx)) (ih _ _ _ ht.2 r0 fun x hx => hp x (List.mem_append_right _ hx))
end

end Go.Proofs.Ytchfoioahgfjdaa
