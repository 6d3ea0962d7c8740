/- Equality of arrays of integers: as the lists of their numbers are equal. -/
import Derived.WalkKit
namespace Go.Proofs.Ytchfoioahgfjdaa
open Go.RowKit
variable {P : Program}

theorem run_part_int (e : TypeId) (k : IntKind) (he : ∀ w, (isAgg e).run P w = .ok false w) (xs : List Int) (i : Nat) (h : i < xs.length) (w : World) :
    (part e (xs.map (.int k)).toArray i).run P w = .ok (.int k xs[i]) w := by
  simp [part, Sem.run_bind, he, h]

theorem run_equalIn_arr (D : Nat) (t e : TypeId) (n : Nat) (k : IntKind) (ht : P.underlying t = some (.array n e)) (he : ∀ w, (isAgg e).run P w = .ok false w)
    (hs : ∀ w, (sizeOf e).run P w = .ok 1 w) (hin : ∀ a b w, (Op.equalIn D e (.int k a) (.int k b)).run P w = .ok (a == b) w) (xs ys : List Int) (hx : xs.length = n) (hy : ys.length = n) (w : World) :
    (Op.equalIn (D + 1) t (.agg (xs.map (.int k)).toArray) (.agg (ys.map (.int k)).toArray)).run P w = .ok (xs == ys) w := by
  simp only [Op.equalIn, Sem.run_bind, run_underlying ht, Result.andThen_ok, hs]
  simp only [Std.Legacy.Range.forIn_eq_forIn_range', Std.Legacy.Range.size]
  have key : ∀ (F : Option Bool × Unit → World → Result Bool), (∀ w, F (none, ()) w = .ok true w) → (∀ b w, F (some b, ()) w = .ok b w) → ∀ m i, i + m = n → ∀ w, ((Sem.run P (forIn (List.range' i m) ((none : Option Bool), ()) fun i __s => do
            let __do_lift ← part e (xs.map (Value.int k)).toArray (i * 1)
            let __do_lift_1 ← part e (ys.map (Value.int k)).toArray (i * 1)
            let __do_lift ← Op.equalIn D e __do_lift __do_lift_1
            if (!__do_lift) = true then pure (ForInStep.done (some false, ()))
              else do
                pure PUnit.unit
                pure (ForInStep.yield (none, ()))) w).andThen F) = .ok (xs.drop i == ys.drop i) w := by
    intro F F0 F1 m
    induction m with
    | zero =>
      intro i hi w
      simp [List.drop_of_length_le (show xs.length ≤ i by omega), List.drop_of_length_le (show ys.length ≤ i by omega), F0]
    | succ m ih =>
      intro i hi w
      have h1 : i < xs.length := by omega
      have h2 : i < ys.length := by omega
      have e1 : xs.drop i = xs[i] :: xs.drop (i + 1) := List.drop_eq_getElem_cons h1
      have e2 : ys.drop i = ys[i] :: ys.drop (i + 1) := List.drop_eq_getElem_cons h2
      have p1 := run_part_int e k he xs i h1 w
      have p2 := run_part_int e k he ys i h2 w
      have E : (xs.drop i == ys.drop i) = ((xs[i] == ys[i]) && (xs.drop (i + 1) == ys.drop (i + 1))) := by rw [e1, e2]; rfl
      rw [E]
      clear E e1 e2
      by_cases hq : xs[i] = ys[i]
      · have := ih (i + 1) (by omega) w
        simp only [List.range'_succ, List.forIn_cons, Sem.run_bind, Nat.mul_one, p1, p2, Result.andThen_ok, hin, hq] at this ⊢
        simpa using this
      · simp [List.range'_succ, List.forIn_cons, Sem.run_bind, Nat.mul_one, p1, p2, Result.andThen_ok, hin, hq, F1]
  rw [show (n - 0 + 1 - 1) / 1 = n by simp]
  exact key _ (by intros; rfl) (by intros; rfl) n 0 (by omega) w

/-- '==' of two arrays of integers, as the walk comes to it. -/
theorem run_eql_arr (t e : TypeId) (n : Nat) (k : IntKind) (ht : P.underlying t = some (.array n e)) (he : ∀ w, (isAgg e).run P w = .ok false w) (hee : P.underlying e = some (.int k))
    (hs : ∀ w, (sizeOf e).run P w = .ok 1 w) (xs ys : List Int) (hx : xs.length = n) (hy : ys.length = n) (w : World) :
    (binOp .eql t (.agg (xs.map (.int k)).toArray) (.agg (ys.map (.int k)).toArray)).run P w = .ok (.bool (xs == ys)) w := by
  rw [run_eql_struct, run_equalIn_arr 9999 t e n k ht he hs (fun a b w => run_equalIn_int w 9998 e k k a b hee) xs ys hx hy w]
  rfl
theorem run_neq_arr (t e : TypeId) (n : Nat) (k : IntKind) (ht : P.underlying t = some (.array n e)) (he : ∀ w, (isAgg e).run P w = .ok false w) (hee : P.underlying e = some (.int k))
    (hs : ∀ w, (sizeOf e).run P w = .ok 1 w) (xs ys : List Int) (hx : xs.length = n) (hy : ys.length = n) (w : World) :
    (binOp .neq t (.agg (xs.map (.int k)).toArray) (.agg (ys.map (.int k)).toArray)).run P w = .ok (.bool (!(xs == ys))) w := by
  rw [run_neq_struct, run_equalIn_arr 9999 t e n k ht he hs (fun a b w => run_equalIn_int w 9998 e k k a b hee) xs ys hx hy w]
  rfl
end Go.Proofs.Ytchfoioahgfjdaa
