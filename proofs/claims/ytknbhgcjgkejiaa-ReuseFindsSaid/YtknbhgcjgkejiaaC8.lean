/- Strictly ascending lists, in plain Lean. -/
import Derived.Test.YtknbhgcjgkejiaaC6
set_option linter.unusedVariables false
set_option linter.unusedSimpArgs false
set_option linter.constructorNameAsVariable false
namespace Go.Proofs.YtknbhgcjgkejiaaV
/-- A comparison that parts what is not the same. -/
structure Cmp3 {α : Type} (c : α → α → Int) : Prop where
  pre : Pre3 c
  zero : ∀ a b, c a b = 0 ↔ a = b
theorem cmp_v : Cmp3 vcmp := ⟨pre_vcmp, vcmp_zero⟩
theorem cmp_r : Cmp3 rcmp := ⟨pre_rcmp, rcmp_zero⟩
section
variable {α : Type} {c : α → α → Int} (hc : Cmp3 c)
include hc
theorem Cmp3.lt_trans {a b d : α} (h : c a b < 0) (k : c b d < 0) : c a d < 0 := by
  have h1 := hc.pre.tr a b d (by omega) (by omega)
  rcases Int.lt_or_eq_of_le h1 with h2 | h2
  · exact h2
  · have := (hc.zero a d).1 h2
    subst this
    have := hc.pre.sw a b
    omega
theorem Cmp3.lt_le {a b d : α} (h : c a b < 0) (k : c b d ≤ 0) : c a d < 0 := by
  rcases Int.lt_or_eq_of_le k with h2 | h2
  · exact hc.lt_trans h h2
  · rw [← (hc.zero b d).1 h2]; exact h
theorem Cmp3.le_lt {a b d : α} (h : c a b ≤ 0) (k : c b d < 0) : c a d < 0 := by
  rcases Int.lt_or_eq_of_le h with h2 | h2
  · exact hc.lt_trans h2 k
  · rw [(hc.zero a b).1 h2]; exact k
theorem ss_unique : ∀ (l m : List α), l.Pairwise (fun a b => c a b < 0) → m.Pairwise (fun a b => c a b < 0) → (∀ y, y ∈ l ↔ y ∈ m) → l = m
  | [], [], _, _, _ => rfl
  | [], b :: m, _, _, h => by have := (h b).2 (by simp); simp at this
  | a :: l, [], _, _, h => by have := (h a).1 (by simp); simp at this
  | a :: l, b :: m, hl, hm, h => by
    rw [List.pairwise_cons] at hl hm
    have hab : a = b := by
      have h1 := (h a).1 (by simp)
      have h2 := (h b).2 (by simp)
      rcases List.mem_cons.1 h1 with h1 | h1
      · exact h1
      · rcases List.mem_cons.1 h2 with h2 | h2
        · exact h2.symm
        · have e1 := hm.1 a h1
          have e2 := hl.1 b h2
          have := hc.pre.sw a b
          omega
    subst hab
    have ih := ss_unique l m hl.2 hm.2 fun y => by
      have na : ∀ z, z ∈ l → ¬ z = a := fun z hz e => by
        have := hl.1 z hz
        rw [e, hc.pre.same] at this
        omega
      have nb : ∀ z, z ∈ m → ¬ z = a := fun z hz e => by
        have := hm.1 z hz
        rw [e, hc.pre.same] at this
        omega
      constructor
      · intro hy
        have := (h y).1 (by simp [hy])
        rcases List.mem_cons.1 this with h' | h'
        · exact absurd h' (na y hy)
        · exact h'
      · intro hy
        have := (h y).2 (by simp [hy])
        rcases List.mem_cons.1 this with h' | h'
        · exact absurd h' (nb y hy)
        · exact h'
    rw [ih]
omit hc in
theorem insAt_spec (x : α) (l : List α) : ∀ n, n ≤ l.length → (∀ j (hj : j < l.length), insAt c x l n ≤ j → j < n → 0 < c l[j] x) ∧ (∀ (h : 0 < insAt c x l n), ∃ (hk : insAt c x l n - 1 < l.length), c l[insAt c x l n - 1] x ≤ 0)
  | 0, _ => ⟨fun j _ h1 h2 => by omega, fun h => by simp [insAt] at h⟩
  | n + 1, hn => by
    have hn' : n < l.length := by omega
    obtain ⟨ih1, ih2⟩ := insAt_spec x l n (by omega)
    by_cases h : 0 < c l[n] x
    · rw [insAt_go hn' h]
      refine ⟨fun j hj h1 h2 => ?_, ih2⟩
      rcases Nat.lt_or_ge j n with h3 | h3
      · exact ih1 j hj h1 h3
      · have : j = n := by omega
        subst this
        exact h
    · rw [insAt_stop hn' h]
      exact ⟨fun j _ h1 h2 => by omega, fun _ => ⟨by simpa using hn', by simpa using Int.not_lt.1 h⟩⟩
theorem ins_ss (l : List α) (x : α) (h : l.Pairwise (fun a b => c a b < 0)) : (ins c l x).Pairwise (fun a b => c a b < 0) ∧ ∀ y, y ∈ ins c l x ↔ (y ∈ l ∨ y = x) := by
  obtain ⟨k, hk⟩ : ∃ k, insAt c x l l.length = k := ⟨_, rfl⟩
  have hkl : k ≤ l.length := by rw [← hk]; exact insAt_le ..
  obtain ⟨s1, s2⟩ := insAt_spec (c := c) x l l.length (Nat.le_refl _)
  rw [hk] at s1 s2
  unfold ins
  rw [hk]
  split
  · rename_i hs
    refine ⟨h, fun y => ⟨.inl, fun hy => ?_⟩⟩
    rcases hy with hy | rfl
    · exact hy
    · cases k with
      | zero => simp [same1] at hs
      | succ k =>
        have hk' : k < l.length := by omega
        simp [same1, hk'] at hs
        rw [← (hc.zero _ _).1 hs]
        exact List.getElem_mem hk'
  · rename_i hs
    have lo : ∀ i (hi : i < l.length), i < k → c l[i] x < 0 := by
      intro i hi hik
      obtain ⟨hk1, h2⟩ := s2 (by omega)
      have h3 : c l[k - 1] x < 0 := by
        rcases Int.lt_or_eq_of_le h2 with h3 | h3
        · exact h3
        · refine absurd ?_ hs
          obtain ⟨k, rfl⟩ : ∃ j, k = j + 1 := ⟨k - 1, by omega⟩
          simp only [Nat.add_sub_cancel] at h3 hk1
          simp [same1, hk1, h3]
      rcases Nat.lt_or_ge i (k - 1) with h4 | h4
      · exact hc.lt_trans (List.pairwise_iff_getElem.1 h i (k - 1) hi hk1 h4) h3
      · have : i = k - 1 := by omega
        subst this
        exact h3
    have hi : ∀ i (hi : i < l.length), k ≤ i → c x l[i] < 0 := by
      intro i hi hik
      have := s1 i hi hik hi
      have := hc.pre.sw l[i] x
      omega
    refine ⟨?_, fun y => ?_⟩
    · rw [List.pairwise_append]
      refine ⟨h.sublist (List.take_sublist _ _), ?_, fun a ha b hb => ?_⟩
      · rw [List.pairwise_cons]
        refine ⟨fun b hb => ?_, h.sublist (List.drop_sublist _ _)⟩
        obtain ⟨i, hi', rfl⟩ := List.getElem_of_mem hb
        simp at hi'
        rw [List.getElem_drop]
        exact hi _ (by omega) (by omega)
      · obtain ⟨i, hi', rfl⟩ := List.getElem_of_mem ha
        simp at hi'
        rw [List.getElem_take]
        have hax := lo i (by omega) (by omega)
        rcases List.mem_cons.1 hb with rfl | hb
        · exact hax
        · obtain ⟨j, hj', rfl⟩ := List.getElem_of_mem hb
          simp at hj'
          rw [List.getElem_drop]
          exact hc.lt_trans hax (hi _ (by omega) (by omega))
    · constructor
      · intro hy
        rcases List.mem_append.1 hy with hy | hy
        · exact .inl (List.mem_of_mem_take hy)
        · rcases List.mem_cons.1 hy with hy | hy
          · exact .inr hy
          · exact .inl (List.mem_of_mem_drop hy)
      · rintro (hy | rfl)
        · rw [← List.take_append_drop k l] at hy
          rcases List.mem_append.1 hy with hy | hy
          · simp [hy]
          · simp [hy]
        · simp
theorem insAll_ss : ∀ (xs l : List α), l.Pairwise (fun a b => c a b < 0) → (insAll c l xs).Pairwise (fun a b => c a b < 0) ∧ ∀ y, y ∈ insAll c l xs ↔ (y ∈ l ∨ y ∈ xs)
  | [], l, h => ⟨h, fun y => by simp [insAll]⟩
  | x :: xs, l, h => by
    obtain ⟨h1, h2⟩ := ins_ss hc l x h
    obtain ⟨h3, h4⟩ := insAll_ss xs (ins c l x) h1
    refine ⟨h3, fun y => ?_⟩
    have := h4 y
    rw [h2] at this
    simp only [List.mem_cons]
    have e : insAll c l (x :: xs) = insAll c (ins c l x) xs := rfl
    rw [e, this]
    grind
theorem cpt_ss [DecidableEq α] (l : List α) (h : l.Pairwise (fun a b => c a b ≤ 0)) : ∀ j, j ≤ l.length → (cpt l j).Pairwise (fun a b => c a b < 0) ∧ (∀ y, y ∈ cpt l j ↔ y ∈ l.take j)
  | 0, _ => ⟨by simp [cpt], by simp [cpt]⟩
  | j + 1, hj => by
    obtain ⟨ih1, ih2⟩ := cpt_ss l h j (by omega)
    have hj' : j < l.length := by omega
    have hmem : ∀ y, y ∈ l.take (j + 1) ↔ (y ∈ l.take j ∨ y = l[j]) := fun y => by
      rw [List.take_succ_eq_append_getElem hj', List.mem_append, List.mem_singleton]
    by_cases hs : ∃ h0 : 0 < j, l[j] = l[j - 1]
    · obtain ⟨h0, he⟩ := hs
      rw [cpt_same h0 hj' he]
      refine ⟨ih1, fun y => ?_⟩
      rw [ih2, hmem]
      refine ⟨.inl, ?_⟩
      rintro (hy | rfl)
      · exact hy
      · rw [he, List.mem_take_iff_getElem]
        exact ⟨j - 1, by omega, rfl⟩
    · have hn : cpt l (j + 1) = cpt l j ++ [l[j]] := by
        rcases Nat.eq_zero_or_pos j with h0 | h0
        · subst h0
          simp [cpt, hj']
        · exact cpt_new h0 hj' fun e => hs ⟨h0, e⟩
      rw [hn]
      refine ⟨?_, fun y => ?_⟩
      · rw [List.pairwise_append]
        refine ⟨ih1, by simp, fun a ha b hb => ?_⟩
        simp at hb
        subst hb
        obtain ⟨i, hi, rfl⟩ := (List.mem_take_iff_getElem).1 ((ih2 a).1 ha)
        have hij : i < j := by omega
        have h0 : 0 < j := by omega
        have hne : ¬ l[j] = l[j - 1] := fun e => hs ⟨h0, e⟩
        have h1 : c l[j - 1] l[j] < 0 := by
          have := List.pairwise_iff_getElem.1 h (j - 1) j (by omega) hj' (by omega)
          rcases Int.lt_or_eq_of_le this with h2 | h2
          · exact h2
          · exact absurd ((hc.zero _ _).1 h2).symm hne
        rcases Nat.lt_or_ge i (j - 1) with h4 | h4
        · exact hc.le_lt (List.pairwise_iff_getElem.1 h i (j - 1) (by omega) (by omega) h4) h1
        · have : i = j - 1 := by omega
          subst this
          exact h1
      · rw [List.mem_append, ih2, hmem]
        simp
/-- Sorted, equal neighbours left out: that is what putting in one after the other gives. -/
theorem sort_cpt [DecidableEq α] {xs l : List α} (hp : l.Perm xs) (hs : l.Pairwise (fun a b => c a b ≤ 0)) : cpt l l.length = insAll c [] xs := by
  obtain ⟨h1, h2⟩ := cpt_ss hc l hs l.length (Nat.le_refl _)
  obtain ⟨h3, h4⟩ := insAll_ss hc xs [] List.Pairwise.nil
  refine ss_unique hc _ _ h1 h3 fun y => ?_
  rw [h2, h4, List.take_length, hp.mem_iff]
  simp
end
end Go.Proofs.YtknbhgcjgkejiaaV
