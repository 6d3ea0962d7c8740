/- The law LatticeJoins: it returns true in every world. -/
import Derived.Test.YtchfoioahgfjdaaJoi
import Derived.Test.YtchfoioahgfjdaaOpn
import Derived.Carry
namespace Go.Proofs.Ytchfoioahgfjdaa.latticeJoins
open Go.ChangeShapes Go.WideShapes Go.ChangeAt Go.RowKit

theorem own : ownKnob Try.prog.godebug = none := by kernel_rfl

set_option maxRecDepth 100000 in
theorem lifted (os : Os) (started : os.Started) (H : Type) (enc : TypeId × Value → H) :
    ReturnsInHanded {} Try.checked os 5 .any (Rows.latticeJoinsSpec.pre6 enc Try.prog Try.f5 Rows.latticeJoinsRow.domain false) (Rows.latticeJoinsSpec.post enc Try.prog Try.f5 false true false false) := by
  refine returnsInHanded_of_change (C := Try.checked) own started (by kernel_rfl) Try.func5
    (ChangeSpec.witness6 (enc := enc) (C := Try.checked) false ⟨#[], #[.int .i64 0, .slice none 0 0, .slice none 0 0, .slice none 0 0], []⟩ 8 (by kernel_rfl) (by kernel_rfl) (by kernel_rfl) (by kernel_rfl)) ?_
  intro W base args ds gs before hval0 hW hcnd _
  have hval : ∀ (j : Nat) t v, Try.f5.params[j]? = some t → args[j]? = some v → Value.okWide Try.prog W .any base t v := hval0
  have hW' := hW
  obtain ⟨p, q, hA0, hV, rfl, hfz, hnd⟩ := hW
  have hA : DataW.TrodAll enc Try.prog W 0 (fun _ => true) true Try.f5.params.toList args.toList ds p := hA0
  rw [Try.params5] at hA hval
  have hA1 := hA
  have hlt : ∀ x ∈ p, x.block < W.heap.size := fun x hx => by simpa using hW'.lt x (by simp [hx])
  obtain ⟨v0, v1, v2, v3, d0, d1, d2, d3, p0, p1, p2, p3, rfl, rfl, rfl, h0, h1, h2, h3⟩ := trodAll_four hA
  obtain ⟨rfl, rfl⟩ := trodVars_none hV
  obtain ⟨n, rfl, rfl, rfl, wn⟩ := open_int Try.underlying3 (hval 0 3 v0 rfl rfl) h0
  obtain ⟨va, na, ca, fa, A, rfl, fA, lA⟩ := facts_open (hval 1 23 v1 rfl rfl) h1
  obtain ⟨vb, nb, cb, fb, B, rfl, fB, lB⟩ := facts_open (hval 2 23 v2 rfl rfl) h2
  obtain ⟨vc, nc, cc, fc, C, rfl, fC, lC⟩ := facts_open (hval 3 23 v3 rfl rfl) h3
  clear hA0 hval0
  refine (joins_any n _ _ _ A B C W ⟨_, fA, lA⟩ ⟨_, fB, lB⟩ ⟨_, fC, lC⟩).mono fun e W' ⟨he, bel⟩ => ?_
  subst he
  exact ⟨_, rfl, _, _, _, [], _, [], hW', trodAll_mk1 (shut_bool Try.underlying4 _), (trodAll_below bel _ _ _ _ (by kernel_rfl) hA1 hlt), rfl, bel.frame _, fun h => by cases h⟩

theorem over : Rows.latticeJoinsRow.holds Try.pinned (OpenSpec.ofChange Rows.latticeJoinsSpec) :=
  OpenClaim.holds_of_wide 5 Try.f5 rfl rfl rfl rfl rfl rfl rfl ⟨rfl, rfl, rfl, rfl, rfl⟩ rfl rfl rfl rfl rfl (by kernel_rfl) Try.func5 (by kernel_rfl)
    (of_decide_eq_true (by kernel_rfl)) (by unfold Func.isWrapper; first | (rw [if_pos (by decide +kernel)]; kernel_rfl) | (rw [if_neg (by decide +kernel)]; exact ⟨rfl, rfl⟩))
    (fun os started H enc _ => lifted os started H enc)

theorem proved : Rows.LatticeJoinsSaid :=
  over
#print axioms proved
end Go.Proofs.Ytchfoioahgfjdaa.latticeJoins
