/- A region that draws its order and calls functions that make memory: the class of all later worlds in which the old memory stands. -/
import Derived.Test.YtchfoioahgfjdaaJoi
namespace Go.Proofs.Ytchfoioahgfjdaa
open Go.RowKit

/-- A world in which the old one's memory stands as it was. -/
structure Aft (w0 : World) where
  w : World
  b : Below w0.heap.size w0 w

instance (w0 : World) : Nonempty (Aft w0) := ⟨⟨w0, Below.refl _ _⟩⟩
theorem aft_drew (w0 : World) : ∃ x : Aft w0, { w0 with drawn := w0.drawn + 1 } = x.w := ⟨⟨w0.drew, (Below.refl _ _).drew⟩, rfl⟩
theorem wp_region_aft {id : Nat} {Q : Exit → Act → World → Prop} {a : Act} {w : World} {l : List Oper} (hm : Try.prog.follows .mixedOrders = true) (hB : Region.lexB .any l.toArray = true)
    (h : wpQuiet Try.prog l.toArray (fun w' => ∃ y : Aft w, w' = y.w) (fun a' => ∀ w', (∃ y : Aft w, w' = y.w) → Q .normal a' w') l a) : (Code.region id l.toArray true).wp Try.prog Q a w :=
  wp_region_quiet (C := fun w' => ∃ y : Aft w, w' = y.w) hm hB (aft_drew w) (by simpa using h)
theorem calls_aft {f : Nat} {args : Array Value} {w0 : World} {v : Value} (x : Aft w0) (h : Calls Try.prog f args x.w fun e w' => e = .returned v ∧ Below x.w.heap.size x.w w') :
    Calls Try.prog f args x.w fun e w' => e = .returned v ∧ ∃ y : Aft w0, w' = y.w :=
  h.mono fun _ w' ⟨h1, h2⟩ => ⟨h1, ⟨w', x.b.tr h2⟩, rfl⟩

end Go.Proofs.Ytchfoioahgfjdaa
