/- The law LatticeMerges: it returns true in every world; no condition. -/
import Derived.Test.YtchfoioahgfjdaaMgsw
import Derived.Test.YtchfoioahgfjdaaOpn
import Derived.Carry
namespace Go.Proofs.Ytchfoioahgfjdaa.latticeMerges
open Go.ChangeShapes Go.WideShapes Go.ChangeAt Go.RowKit

theorem own : ownKnob Try.prog.godebug = none := by kernel_rfl

set_option maxRecDepth 100000 in
theorem lifted (os : Os) (started : os.Started) (H : Type) (enc : TypeId × Value → H) :
    ReturnsInHanded {} Try.checked os 4 .any (Rows.latticeMergesSpec.pre6 enc Try.prog Try.f4 Rows.latticeMergesRow.domain false) (Rows.latticeMergesSpec.post enc Try.prog Try.f4 false true false false) := by
  refine returnsInHanded_of_change (C := Try.checked) own started (by kernel_rfl) Try.func4
    (ChangeSpec.witness6 (enc := enc) (C := Try.checked) false ⟨#[], #[.int .i64 0, .slice none 0 0, .slice none 0 0], []⟩ 8 (by kernel_rfl) (by kernel_rfl) (by kernel_rfl) (by kernel_rfl)) ?_
  intro W base args ds gs before hval0 hW hcnd _
  have hval : ∀ (j : Nat) t v, Try.f4.params[j]? = some t → args[j]? = some v → Value.okWide Try.prog W .any base t v := hval0
  have hW' := hW
  obtain ⟨p, q, hA0, hV, rfl, hfz, hnd⟩ := hW
  have hA : DataW.TrodAll enc Try.prog W 0 (fun _ => true) true Try.f4.params.toList args.toList ds p := hA0
  rw [Try.params4] at hA hval
  have hA1 := hA
  have hlt : ∀ x ∈ p, x.block < W.heap.size := fun x hx => by simpa using hW'.lt x (by simp [hx])
  obtain ⟨v0, v1, v2, d0, d1, d2, p0, p1, p2, rfl, rfl, rfl, h0, h1, h2⟩ := trodAll_three hA
  obtain ⟨rfl, rfl⟩ := trodVars_none hV
  obtain ⟨x0, rfl, rfl, rfl, wx0⟩ := open_int Try.underlying3 (hval 0 3 v0 rfl rfl) h0
  obtain ⟨va1, n1, c1, f1, X1, rfl, fs1, l1⟩ := facts_open (hval 1 23 v1 rfl rfl) h1
  obtain ⟨va2, n2, c2, f2, X2, rfl, fs2, l2⟩ := facts_open (hval 2 23 v2 rfl rfl) h2
  clear hA0 hval0
  refine (merges_law x0 _ _ X1 X2 W ⟨_, fs1, l1⟩ ⟨_, fs2, l2⟩).mono fun e W' ⟨he, bel⟩ => ?_
  subst he
  exact ⟨_, rfl, _, _, _, [], _, [], hW', trodAll_mk1 (shut_bool Try.underlying4 _), (trodAll_below bel _ _ _ _ (by kernel_rfl) hA1 hlt), rfl, bel.frame _, fun h => by cases h⟩

theorem over : Rows.latticeMergesRow.holds Try.pinned (OpenSpec.ofChange Rows.latticeMergesSpec) :=
  OpenClaim.holds_of_wide 4 Try.f4 rfl rfl rfl rfl rfl rfl rfl ⟨rfl, rfl, rfl, rfl, rfl⟩ rfl rfl rfl rfl rfl (by kernel_rfl) Try.func4 (by kernel_rfl)
    (of_decide_eq_true (by kernel_rfl)) (by unfold Func.isWrapper; first | (rw [if_pos (by decide +kernel)]; kernel_rfl) | (rw [if_neg (by decide +kernel)]; exact ⟨rfl, rfl⟩))
    (fun os started H enc _ => lifted os started H enc)

theorem proved : Rows.LatticeMergesSaid :=
  over
#print axioms proved
end Go.Proofs.Ytchfoioahgfjdaa.latticeMerges
