/- LatticeWho: the plain law. -/
import Derived.Test.YtchfoioahgfjdaaJoi
namespace Go.Proofs.Ytchfoioahgfjdaa
open Go.RowKit

theorem int_ext : ∀ {a b : List Int}, a.Pairwise (· < ·) → b.Pairwise (· < ·) → (∀ k, k ∈ a ↔ k ∈ b) → a = b
  | [], [], _, _, _ => rfl
  | [], y :: b, _, _, h => by have := (h y).2 (by simp); simp at this
  | x :: a, [], _, _, h => by have := (h x).1 (by simp); simp at this
  | x :: a, y :: b, ha, hb, h => by
    rw [List.pairwise_cons] at ha hb
    have exy : x = y := by
      have h1 := (h x).1 (by simp)
      have h2 := (h y).2 (by simp)
      simp only [List.mem_cons] at h1 h2
      rcases h1 with h1 | h1
      · exact h1
      rcases h2 with h2 | h2
      · exact h2.symm
      have := ha.1 y h2
      have := hb.1 x h1
      omega
    subst exy
    have : a = b := int_ext ha.2 hb.2 fun k => by
      have := h k
      simp only [List.mem_cons] at this
      constructor
      · intro hk
        have h3 := ha.1 k hk
        rcases this.1 (.inr hk) with e | h'
        · omega
        · exact h'
      · intro hk
        have h3 := hb.1 k hk
        rcases this.2 (.inr hk) with e | h'
        · omega
        · exact h'
    rw [this]

theorem who_mem (fs : List FV) (kd ep j : Int) : j ∈ whoF fs kd ep ↔ hasF fs kd ep j = true := by
  simp [whoF, hasF, and_assoc]
theorem who_sorted {X : List AF} (h : Sorted X) (kd ep : Int) : (whoF (heads X) kd ep).Pairwise (· < ·) := by
  have h1 : ((heads X).map key).Pairwise ltK := by rw [keys_heads]; exact h
  rw [List.pairwise_map] at h1
  unfold whoF
  rw [List.pairwise_map, List.pairwise_filter]
  refine h1.imp ?_
  intro f g hl hf hg
  simp [isB, ltK, key] at hf hg hl
  omega
theorem who_len (X : List AF) (kd ep : Int) : (whoF (heads X) kd ep).length ≤ X.length := by
  unfold whoF; rw [List.length_map, ← heads_len X]; exact List.length_filter_le _ _

def cntTo (X : List AF) (kd ep : Int) (k : Nat) : Nat := ((List.range k).filter fun j : Nat => hasF (heads X) kd ep (j : Int)).length
theorem cntTo_le (X : List AF) (kd ep : Int) (k : Nat) : cntTo X kd ep k ≤ k := by
  have := List.length_filter_le (fun j : Nat => hasF (heads X) kd ep (j : Int)) (List.range k)
  rwa [List.length_range] at this
theorem cntTo_yes {X : List AF} {kd ep : Int} {k : Nat} (h : hasF (heads X) kd ep (k : Int) = true) : cntTo X kd ep (k + 1) = cntTo X kd ep k + 1 := by
  unfold cntTo; rw [List.range_succ, List.filter_append]; simp [h]
theorem cntTo_no {X : List AF} {kd ep : Int} {k : Nat} (h : hasF (heads X) kd ep (k : Int) = false) : cntTo X kd ep (k + 1) = cntTo X kd ep k := by
  unfold cntTo; rw [List.range_succ, List.filter_append]; simp [h]
theorem cntTo_nine {n : Int} {X : List AF} (kd ep : Int) (hs : Sorted X) (hok : ∀ x ∈ X, okF n x.1 = true) : cntTo X kd ep 9 = (whoF (heads X) kd ep).length := by
  have e : whoF (heads X) kd ep = ((List.range 9).filter fun j : Nat => hasF (heads X) kd ep (j : Int)).map Int.ofNat := by
    refine int_ext (who_sorted hs kd ep) ?_ fun k => ?_
    · rw [List.pairwise_map, List.pairwise_filter]
      refine (List.pairwise_lt_range (n := 9)).imp ?_
      intro a b h _ _
      simp only [Int.ofNat_eq_natCast]
      omega
    · rw [who_mem, List.mem_map]
      constructor
      · intro h
        have h1 := (hasF_iff _ _ _ _).1 h
        obtain ⟨f, hf, e⟩ := List.mem_map.1 h1
        obtain ⟨x, hx, rfl⟩ := List.mem_map.1 hf
        have h2 := (okF_true (hok x hx)).1
        simp only [key, Prod.mk.injEq] at e
        have e3 : x.1.node = k := e.2.2
        have hk : ((k.toNat : Nat) : Int) = k := by omega
        exact ⟨k.toNat, List.mem_filter.2 ⟨List.mem_range.2 (by omega), by rw [hk]; exact h⟩, hk⟩
      · rintro ⟨j, hj, rfl⟩
        exact (List.mem_filter.1 hj).2
  rw [e, List.length_map]; rfl

end Go.Proofs.Ytchfoioahgfjdaa
