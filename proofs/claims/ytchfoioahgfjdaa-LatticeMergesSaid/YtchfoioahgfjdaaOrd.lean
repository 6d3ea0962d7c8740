/- Plain laws: facts' keys, their order; what Add, Merge and grown do to it. No program in sight. -/
import Derived.Test.YtchfoioahgfjdaaGrw
namespace Go.Proofs.Ytchfoioahgfjdaa

abbrev Key := Int × Int × Int
def key (f : FV) : Key := (f.epoch, f.kind, f.node)
def ltK (a b : Key) : Prop := a.1 < b.1 ∨ (a.1 = b.1 ∧ (a.2.1 < b.2.1 ∨ (a.2.1 = b.2.1 ∧ a.2.2 < b.2.2)))
theorem ltK_irr (a : Key) : ¬ ltK a a := by unfold ltK; omega
theorem ltK_trans {a b c : Key} (h : ltK a b) (k : ltK b c) : ltK a c := by unfold ltK at *; omega
theorem ltK_tri (a b : Key) : ltK a b ∨ a = b ∨ ltK b a := by
  obtain ⟨a1, a2, a3⟩ := a
  obtain ⟨b1, b2, b3⟩ := b
  simp only [ltK, Prod.mk.injEq]
  omega
theorem ltF_iff (f g : FV) : ltF f g = true ↔ ltK (key f) (key g) := by
  simp [ltF, ltK, key]
theorem ltF_no (f g : FV) : ltF f g = false ↔ ¬ ltK (key f) (key g) := by
  rw [← ltF_iff]; cases ltF f g <;> simp

theorem hasF_iff (fs : List FV) (k e n : Int) : hasF fs k e n = true ↔ (e, k, n) ∈ fs.map key := by
  simp only [hasF, List.any_eq_true, List.mem_filter, List.mem_map, isB, key, Prod.mk.injEq, Bool.and_eq_true, beq_iff_eq]
  constructor
  · rintro ⟨f, ⟨h1, h2⟩, h3⟩; exact ⟨f, h1, by omega, by omega, h3⟩
  · rintro ⟨f, h1, h2, h3, h4⟩; exact ⟨f, ⟨h1, by omega⟩, h4⟩
theorem hasF_key (fs : List FV) (f : FV) : hasF fs f.kind f.epoch f.node = true ↔ key f ∈ fs.map key := hasF_iff _ _ _ _

def keys (X : List AF) : List Key := X.map fun x => key x.1
theorem keys_heads (X : List AF) : (heads X).map key = keys X := by simp [heads, keys]
abbrev Sorted (X : List AF) : Prop := (keys X).Pairwise ltK

theorem sorted_ext : ∀ {a b : List Key}, a.Pairwise ltK → b.Pairwise ltK → (∀ k, k ∈ a ↔ k ∈ b) → a = b
  | [], [], _, _, _ => rfl
  | [], y :: b, _, _, h => by have := (h y).2 (by simp); simp at this
  | x :: a, [], _, _, h => by have := (h x).1 (by simp); simp at this
  | x :: a, y :: b, ha, hb, h => by
    rw [List.pairwise_cons] at ha hb
    have exy : x = y := by
      have h1 := (h x).1 (by simp)
      have h2 := (h y).2 (by simp)
      simp only [List.mem_cons] at h1 h2
      rcases h1 with h1 | h1
      · exact h1
      rcases h2 with h2 | h2
      · exact h2.symm
      exact absurd (ltK_trans (ha.1 y h2) (hb.1 x h1)) (ltK_irr x)
    subst exy
    have : a = b := sorted_ext ha.2 hb.2 fun k => by
      have := h k
      simp only [List.mem_cons] at this
      constructor
      · intro hk
        rcases this.1 (.inr hk) with rfl | h'
        · exact absurd (ha.1 _ hk) (ltK_irr _)
        · exact h'
      · intro hk
        rcases this.2 (.inr hk) with rfl | h'
        · exact absurd (hb.1 _ hk) (ltK_irr _)
        · exact h'
    rw [this]

/-! The place at which a fact is laid. -/
theorem posF_cons (g : FV) (fs : List FV) (f : FV) : posF (g :: fs) f = if ltF g f then posF fs f + 1 else 0 := by
  have hb := idxF_bd (fun x : FV => !(ltF x f)) fs
  unfold posF posI
  simp only [idxF, List.length_cons]
  by_cases h : ltF g f = true
  · simp only [h, Bool.not_true, Bool.false_eq_true, if_false, if_true]
    split
    · rw [if_pos (by omega)]
    · rw [if_neg (by omega)]; omega
  · simp only [Bool.not_eq_true] at h
    simp [h]
theorem posF_take (fs : List FV) (f : FV) : ∀ g ∈ fs.take (posF fs f), ltF g f = true := by
  induction fs with
  | nil => intro g hg; simp at hg
  | cons h fs ih =>
    intro g hg
    rw [posF_cons] at hg
    cases hh : ltF h f
    · rw [hh] at hg; simp at hg
    · rw [hh, if_pos rfl, List.take_succ_cons] at hg
      rcases List.mem_cons.1 hg with rfl | hg
      · exact hh
      · exact ih g hg
theorem posF_drop (fs : List FV) (f : FV) : ∀ g, fs[posF fs f]? = some g → ltF g f = false := by
  induction fs with
  | nil => intro g hg; simp at hg
  | cons h fs ih =>
    intro g hg
    rw [posF_cons] at hg
    cases hh : ltF h f
    · rw [hh] at hg; simp at hg; subst hg; exact hh
    · rw [hh, if_pos rfl, List.getElem?_cons_succ] at hg
      exact ih g hg

theorem keys_insX (X : List AF) (i : Nat) (x : AF) : keys (insX X i x) = (keys X).take i ++ [key x.1] ++ (keys X).drop i := by
  simp [keys, insX, List.map_take, List.map_drop]
theorem mem_insX (X : List AF) (i : Nat) (x y : AF) : y ∈ insX X i x ↔ y = x ∨ y ∈ X := by
  have h : y ∈ X ↔ y ∈ X.take i ∨ y ∈ X.drop i := by
    rw [← List.mem_append, List.take_append_drop]
  simp only [insX, List.mem_append, List.mem_singleton, h]
  constructor
  · rintro ((h | h) | h)
    · exact .inr (.inl h)
    · exact .inl h
    · exact .inr (.inr h)
  · rintro (h | h | h)
    · exact .inl (.inr h)
    · exact .inl (.inl h)
    · exact .inr h
theorem sorted_insX {X : List AF} {x : AF} (h : Sorted X) (hx : key x.1 ∉ keys X) : Sorted (insX X (posF (heads X) x.1) x) := by
  have h1 : ∀ k ∈ (keys X).take (posF (heads X) x.1), ltK k (key x.1) := by
    intro k hk
    rw [← keys_heads, ← List.map_take] at hk
    obtain ⟨g, hg, rfl⟩ := List.mem_map.1 hk
    exact (ltF_iff _ _).1 (posF_take _ _ g hg)
  have h2 : ∀ k ∈ (keys X).drop (posF (heads X) x.1), ltK (key x.1) k := by
    intro k hk
    have hne : k ≠ key x.1 := fun e => hx (e ▸ List.mem_of_mem_drop hk)
    have hnl : ¬ ltK k (key x.1) := by
      have hd := posF_drop (heads X) x.1
      revert hd hk
      generalize posF (heads X) x.1 = i
      intro hk hd
      cases e : (keys X).drop i with
      | nil => rw [e] at hk; simp at hk
      | cons c r =>
        have hc : (keys X)[i]? = some c := by
          have : ((keys X).drop i)[0]? = some c := by rw [e]; rfl
          simpa using this
        rw [← keys_heads, List.getElem?_map] at hc
        cases hg : (heads X)[i]? with
        | none => rw [hg] at hc; simp at hc
        | some g =>
          rw [hg] at hc
          simp at hc
          have h3 := (ltF_no _ _).1 (hd g hg)
          rw [hc] at h3
          rw [e] at hk
          rcases List.mem_cons.1 hk with rfl | hk
          · exact h3
          · have hs : (c :: r).Pairwise ltK := by rw [← e]; exact List.Pairwise.sublist (List.drop_sublist _ _) h
            have h4 := (List.pairwise_cons.1 hs).1 k hk
            intro h5
            exact h3 (ltK_trans h4 h5)
    rcases ltK_tri k (key x.1) with h | h | h
    · exact absurd h hnl
    · exact absurd h hne
    · exact h
  show (keys _).Pairwise ltK
  rw [keys_insX, List.append_assoc, List.pairwise_append]
  refine ⟨List.Pairwise.sublist (List.take_sublist _ _) h, ?_, ?_⟩
  · rw [List.singleton_append, List.pairwise_cons]
    exact ⟨h2, List.Pairwise.sublist (List.drop_sublist _ _) h⟩
  · intro a ha b hb
    rw [List.singleton_append, List.mem_cons] at hb
    rcases hb with rfl | hb
    · exact h1 a ha
    · exact ltK_trans (h1 a ha) (h2 b hb)

/-! Add. -/
theorem addable_iff (n : Int) (X : List AF) (x : AF) : addable n (heads X) x.1 = true ↔ okF n x.1 = true ∧ key x.1 ∉ keys X ∧ X.length < 200 := by
  have h := hasF_key (heads X) x.1
  rw [keys_heads] at h
  simp only [addable, Bool.and_eq_true, Bool.not_eq_true', decide_eq_true_eq, heads_len]
  constructor
  · rintro ⟨⟨h1, h2⟩, h3⟩; exact ⟨h1, (fun hk => by rw [h.2 hk] at h2; cases h2), h3⟩
  · rintro ⟨h1, h2, h3⟩
    refine ⟨⟨h1, ?_⟩, h3⟩
    cases hh : hasF (heads X) x.1.kind x.1.epoch x.1.node with
    | false => rfl
    | true => exact absurd (h.1 hh) h2
theorem addX_yes {n : Int} {X : List AF} {x : AF} (h : okF n x.1 = true ∧ key x.1 ∉ keys X ∧ X.length < 200) : addX n X x = insX X (posF (heads X) x.1) x := by
  unfold addX; rw [if_pos ((addable_iff n X x).2 h)]
theorem addX_no {n : Int} {X : List AF} {x : AF} (h : ¬ (okF n x.1 = true ∧ key x.1 ∉ keys X ∧ X.length < 200)) : addX n X x = X := by
  unfold addX; rw [if_neg (fun e => h ((addable_iff n X x).1 e))]
theorem addX_sorted {n : Int} {X : List AF} {x : AF} (h : Sorted X) : Sorted (addX n X x) := by
  by_cases hc : okF n x.1 = true ∧ key x.1 ∉ keys X ∧ X.length < 200
  · rw [addX_yes hc]; exact sorted_insX h hc.2.1
  · rw [addX_no hc]; exact h
theorem addX_mem {n : Int} {X : List AF} {x y : AF} (h : y ∈ addX n X x) : y ∈ X ∨ (y = x ∧ okF n x.1 = true) := by
  by_cases hc : okF n x.1 = true ∧ key x.1 ∉ keys X ∧ X.length < 200
  · rw [addX_yes hc, mem_insX] at h
    exact h.elim (fun e => .inr ⟨e, hc.1⟩) .inl
  · rw [addX_no hc] at h; exact .inl h
theorem addX_old {n : Int} {X : List AF} {x y : AF} (h : y ∈ X) : y ∈ addX n X x := by
  by_cases hc : okF n x.1 = true ∧ key x.1 ∉ keys X ∧ X.length < 200
  · rw [addX_yes hc, mem_insX]; exact .inr h
  · rw [addX_no hc]; exact h
theorem addX_new {n : Int} {X : List AF} {x : AF} (h : okF n x.1 = true) (hl : X.length < 200) : key x.1 ∈ keys (addX n X x) := by
  by_cases hc : key x.1 ∈ keys X
  · rw [addX_no (fun e => e.2.1 hc)]; exact hc
  · rw [addX_yes ⟨h, hc, hl⟩]; exact List.mem_map.2 ⟨x, (mem_insX _ _ _ _).2 (.inl rfl), rfl⟩
theorem addX_le (n : Int) (X : List AF) (x : AF) : (addX n X x).length ≤ X.length + 1 := by
  by_cases hc : okF n x.1 = true ∧ key x.1 ∉ keys X ∧ X.length < 200
  · rw [addX_yes hc, insX_len]; exact Nat.le_refl _
  · rw [addX_no hc]; omega
theorem addX_keys {n : Int} {X : List AF} {x : AF} (h : okF n x.1 = true) (hl : X.length < 200) (k : Key) : k ∈ keys (addX n X x) ↔ k ∈ keys X ∨ k = key x.1 := by
  constructor
  · intro hk
    obtain ⟨y, hy, rfl⟩ := List.mem_map.1 hk
    rcases addX_mem hy with hy | ⟨rfl, _⟩
    · exact .inl (List.mem_map.2 ⟨y, hy, rfl⟩)
    · exact .inr rfl
  · rintro (hk | rfl)
    · obtain ⟨y, hy, rfl⟩ := List.mem_map.1 hk
      exact List.mem_map.2 ⟨y, addX_old hy, rfl⟩
    · exact addX_new h hl

/-! Merge. -/
theorem mergeX_cons (n : Int) (X : List AF) (y : AF) (Y : List AF) : mergeX n X (y :: Y) = mergeX n (addX n X y) Y := rfl
theorem mergeX_sorted {n : Int} {Y : List AF} : ∀ {X : List AF}, Sorted X → Sorted (mergeX n X Y) := by
  induction Y with
  | nil => intro X h; exact h
  | cons y Y ih => intro X h; exact ih (addX_sorted h)
theorem mergeX_le (n : Int) (Y : List AF) : ∀ X : List AF, (mergeX n X Y).length ≤ X.length + Y.length := by
  induction Y with
  | nil => intro X; exact Nat.le_refl _
  | cons y Y ih => intro X; have := ih (addX n X y); have := addX_le n X y; rw [mergeX_cons, List.length_cons]; omega
theorem mergeX_mem {n : Int} {Y : List AF} : ∀ {X : List AF} {z : AF}, z ∈ mergeX n X Y → z ∈ X ∨ (z ∈ Y ∧ okF n z.1 = true) := by
  induction Y with
  | nil => intro X z h; exact .inl h
  | cons y Y ih =>
    intro X z h
    rcases ih h with h | ⟨h, h'⟩
    · rcases addX_mem h with h | ⟨rfl, h'⟩
      · exact .inl h
      · exact .inr ⟨by simp, h'⟩
    · exact .inr ⟨by simp [h], h'⟩
theorem mergeX_keys {n : Int} {Y : List AF} : ∀ {X : List AF}, (∀ y ∈ Y, okF n y.1 = true) → X.length + Y.length ≤ 200 → ∀ k, k ∈ keys (mergeX n X Y) ↔ k ∈ keys X ∨ k ∈ keys Y := by
  induction Y with
  | nil => intro X _ _ k; simp [mergeX, keys]
  | cons y Y ih =>
    intro X hY hl k
    rw [List.length_cons] at hl
    have h1 := addX_le n X y
    rw [mergeX_cons, ih (fun z hz => hY z (by simp [hz])) (by omega), addX_keys (hY y (by simp)) (by omega), show keys (y :: Y) = key y.1 :: keys Y from rfl, List.mem_cons, or_assoc]
theorem mergeX_old {n : Int} {Y : List AF} : ∀ {X : List AF} {z : AF}, z ∈ X → z ∈ mergeX n X Y := by
  induction Y with
  | nil => intro X z h; exact h
  | cons y Y ih => intro X z h; exact ih (addX_old h)

/-! grown. -/
theorem grownX_ind {n : Int} {P : List AF → Prop} {Y : List AF} (h0 : P []) (h1 : ∀ X x, x ∈ Y → few x = true → P X → P (addX n X x)) : P (grownX n Y) := by
  have : ∀ (Z : List AF) (X : List AF), (∀ x ∈ Z, x ∈ Y) → P X → P (Z.foldl (grown1 n) X) := by
    intro Z
    induction Z with
    | nil => intro X _ h; exact h
    | cons z Z ih =>
      intro X hZ h
      refine ih _ (fun x hx => hZ x (by simp [hx])) ?_
      unfold grown1
      split
      · rename_i hf
        exact h1 X z (hZ z (by simp)) hf h
      · exact h
  exact this Y [] (fun x hx => hx) h0
theorem grownX_sorted (n : Int) (Y : List AF) : Sorted (grownX n Y) := grownX_ind (P := Sorted) .nil fun _ _ _ _ h => addX_sorted h
theorem grownX_ok (n : Int) (Y : List AF) : ∀ x ∈ grownX n Y, x ∈ Y ∧ few x = true ∧ okF n x.1 = true :=
  grownX_ind (n := n) (Y := Y) (P := fun X => ∀ x ∈ X, x ∈ Y ∧ few x = true ∧ okF n x.1 = true) (fun x hx => by simp at hx) fun X x hx hf h y hy => by
    rcases addX_mem hy with hy | ⟨rfl, hy⟩
    · exact h y hy
    · exact ⟨hx, hf, hy⟩
theorem grownX_le (n : Int) (Y : List AF) : (grownX n Y).length ≤ Y.length := by
  have : ∀ (Z : List AF) (X : List AF), (Z.foldl (grown1 n) X).length ≤ X.length + Z.length := by
    intro Z
    induction Z with
    | nil => intro X; exact Nat.le_refl _
    | cons z Z ih =>
      intro X
      have h1 := ih (grown1 n X z)
      have h2 : (grown1 n X z).length ≤ X.length + 1 := by unfold grown1; split; exact addX_le n X z; omega
      rw [List.foldl_cons, List.length_cons]; omega
  have := this Y []
  rwa [List.length_nil, Nat.zero_add] at this

/-! The same. -/
theorem eqM_refl (a : MV) (xs : List Int) : eqM a xs a xs = true := by simp [eqM]
theorem eqA_refl (x : AF) : eqA x x = true := by simp [eqA, eqM_refl]
theorem eqL_refl (X : List AF) : eqL X X = true := by
  simp only [eqL, beq_self_eq_true, Bool.true_and, List.all_eq_true]
  intro p hp
  have : p.1 = p.2 := by
    obtain ⟨i, hi, e⟩ := List.getElem_of_mem hp
    rw [List.getElem_zip] at e
    rw [← e]
  rw [this]; exact eqA_refl _
theorem eqL_of {X Y : List AF} (hl : X.length = Y.length) (h : ∀ (i : Nat) (x y : AF), X[i]? = some x → Y[i]? = some y → eqA x y = true) : eqL X Y = true := by
  simp only [eqL, hl, beq_self_eq_true, Bool.true_and, List.all_eq_true]
  intro p hp
  obtain ⟨i, hi, e⟩ := List.getElem_of_mem hp
  rw [List.getElem_zip] at e
  rw [List.length_zip] at hi
  refine h i p.1 p.2 ?_ ?_
  · rw [List.getElem?_eq_getElem (by omega), ← e]
  · rw [List.getElem?_eq_getElem (by omega), ← e]

end Go.Proofs.Ytchfoioahgfjdaa
