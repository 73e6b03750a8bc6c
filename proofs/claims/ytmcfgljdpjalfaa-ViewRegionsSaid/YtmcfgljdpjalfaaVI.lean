/- The kit's sort of numbers, told over rows. -/
import Derived.Test.YtmcfgljdpjalfaaV14
import Derived.Shelf.Sort.Plain
import Derived.Shelf.Slices.In.SortNone
set_option linter.unusedVariables false
set_option linter.unusedSimpArgs false
set_option linter.constructorNameAsVariable false
set_option linter.unusedSectionVars false
namespace Go.Proofs.YtmcfgljdpjalfaaV
open Go.RowKit Go.Shelf Go.Sort
def encInt (x : Int) : AV := .int .i64 x
theorem relF_ints {Im : Nat → Prop} {φ : Emb} {s : St} {B : Nat} {w : World} : ∀ (l : List Int) (cs : List Value), relF Im φ s B w 1 (l.map encInt) cs → cs = l.map (Value.int .i64)
  | [], cs, h => by simpa [relF] using h
  | a :: l, cs, h => by
    simp only [List.map_cons, relF] at h
    obtain ⟨v, r, rfl, _, _, h3, h4⟩ := h
    simp only [encInt, rel] at h3
    subst h3
    rw [relF_ints l r h4]
    simp [Value.cells]
theorem ints_relF {Im : Nat → Prop} {φ : Emb} {s : St} {B : Nat} {w : World} : ∀ (l : List Int), relF Im φ s B w 1 (l.map encInt) (l.map (Value.int .i64))
  | [] => by simp [relF]
  | a :: l => by
    simp only [List.map_cons, relF]
    exact ⟨.int .i64 a, l.map (Value.int .i64), by simp [Value.cells], rfl, by simp [Value.cells, Value.oneCell'], by simp [encInt, rel], ints_relF l⟩
/-- slices.Sort of a row of numbers. -/
theorem sortInt_sound {P : Program} {ρ : Ren} (L : Lays.n189 P ρ) (hen : Enters P (ρ.f 189)) {s : St} {n e : Nat} {l : List Int} (ha : s.at n = some (e, 1, l.map encInt)) (hl : l.length < 1000000000) :
    Fsound P (ρ.f 189) s [.so n 0 l.length] fun s' r => r = .tup [] ∧ s' = s.put n (e, 1, (l.mergeSort fun x y => decide (x ≤ y)).map encInt) := by
  refine ⟨hen, fun Im φ B w vals hI hr => ?_⟩
  simp only [relL] at hr
  obtain ⟨v, _, rfl, hv, rfl⟩ := hr
  simp only [rel] at hv
  obtain ⟨_, hsl⟩ := hv.2 _ _ _ ha
  rcases Nat.eq_zero_or_pos l.length with h0 | h0
  · have hl0 : l = [] := List.eq_nil_of_length_eq_zero h0
    obtain ⟨A, c, rfl, _⟩ := hsl.slice
    subst hl0
    refine (Any.slices_Sort_int_none L A c w).mono fun e' w' hh => ?_
    obtain ⟨rfl, rfl⟩ := hh
    refine ⟨φ, s, .tup [], _, rfl, Step.refl .., hI, by simp [rel, relL], rfl, ?_⟩
    obtain ⟨b, r⟩ := s
    simp only [St.put, St.mk.injEq, true_and]
    have hr : r[n]? = some (some (e, 1, ([] : List Int).map encInt)) := by
      simp only [St.at] at ha
      cases hq : r[n]? with
      | none => rw [hq] at ha; cases ha
      | some y => rw [hq] at ha; simp at ha; rw [ha]; rfl
    exact List.ext_getElem? fun k => by
      rw [List.getElem?_set]
      split
      · rename_i hk'; subst hk'; rw [hr]; simp [(List.getElem?_eq_some_iff.1 hr).1]
      · rfl
  rcases hsl.2 with ⟨_, _, hz, _⟩ | ⟨gb, cap, p, h1, h2, h3, rfl, h5, h6⟩
  · omega
  have hp0 := h6 rfl
  subst hp0
  obtain ⟨_, k1 | ⟨g', cap', cur, cs, k1, k2, k3, k4, k5, k6, k7⟩⟩ := (hI.rows _ _ _ _ ha).pos hsl.1
  · rw [k1.1] at h1; cases h1
  rw [k1] at h1
  injection h1 with h1
  subst h1
  have hcs := relF_ints l cs k6
  subst hcs
  simp only [List.length_map, Nat.mul_one] at k5 k7
  have hget : ∀ j, j < l.length → cur[j]? = some (Value.int .i64 (l[j]!)) := fun j hj => by
    have : (cur.toList.take l.length)[j]? = some (Value.int .i64 (l[j]!)) := by rw [k7]; simp [hj]
    rw [List.getElem?_take, if_pos hj] at this
    simpa using this
  have hH : Go.Sort.Holds (Value.int .i64) w g' 0 l.toArray := by
    intro j hj
    have hj' : j < l.length := by simpa using hj
    have e : l.toArray[j]! = l[j]! := by simp [hj']
    refine ⟨?_, ?_⟩
    · rw [e]
      simp only [World.cell?, k2, Nat.zero_add]
      exact hget j hj'
    · simp [World.frozen?, k2]
  refine (Any.slices_Sort_int L g' 0 cap l w hH (Array.getElem?_eq_some_iff.1 k2).1 (by omega)).mono fun e' w' hh => ?_
  obtain ⟨rfl, m, os, rfl⟩ := hh
  have hlen : (l.mergeSort fun x y => decide (x ≤ y)).length = l.length := List.length_mergeSort _
  obtain ⟨srt, hsrt⟩ : ∃ srt, srt = l.mergeSort fun x y => decide (x ≤ y) := ⟨_, rfl⟩
  rw [← hsrt] at hlen ⊢
  have hlt : g' < w.heap.size := (Array.getElem?_eq_some_iff.1 k2).1
  have hheap : (grow (putRow (Value.int .i64) (Go.Sort.ahead w m) g' 0 srt.toArray) os).heap[g']? = some (.cells (putCells (Value.int .i64) 0 srt.toArray cur) e (0, 0)) := by
    simp only [grow, putRow, mapBlock, Go.Sort.ahead]
    rw [Array.getElem?_append_left (by simpa using hlt), Array.getElem?_modify, if_pos rfl, k2]
    rfl
  have hgb : w.grownBy (grow (putRow (Value.int .i64) (Go.Sort.ahead w m) g' 0 srt.toArray) os) (some g') := by
    refine ⟨rfl, rfl, rfl, ?_, fun g hg hne => ?_⟩
    · simp [grow, putRow, mapBlock, Go.Sort.ahead]
    · have hne' : ¬ g' = g := fun e => hne (by rw [e])
      simp only [grow, putRow, mapBlock, Go.Sort.ahead]
      rw [Array.getElem?_append_left (by simpa using hg), Array.getElem?_modify, if_neg hne']
  obtain ⟨s1, s2⟩ := hI.putRow ha k1 k2 hgb (Nat.le_add_right _ _) hheap (by simp [putCells]) (xs' := srt.map encInt) (by simp [hlen]) (ints_relF srt) (by
    apply List.ext_getElem?
    intro t
    rw [List.getElem?_take, List.getElem?_map]
    simp only [List.length_map, Nat.mul_one]
    split
    · rename_i ht
      have h2 : t < cur.size := by
        have : cap' * 1 = cur.size := k3.symm
        omega
      rw [Array.getElem?_toList]
      unfold putCells
      rw [Array.getElem?_mapIdx, Array.getElem?_eq_getElem h2, List.getElem?_eq_getElem ht]
      simp [ht]
    · rw [List.getElem?_eq_none (by omega)]
      rfl)
  exact ⟨φ, _, .tup [], _, rfl, s1, s2, by simp [rel, relL], rfl, rfl⟩
end Go.Proofs.YtmcfgljdpjalfaaV
