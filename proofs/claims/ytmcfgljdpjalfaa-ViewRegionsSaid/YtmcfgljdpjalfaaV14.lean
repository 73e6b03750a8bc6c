/- The abstract layer, fourteenth text: slices.SortFunc at structs, by the kit's contract. -/
import Derived.Test.YtmcfgljdpjalfaaV12
import Derived.Shelf.SlSortCmp.NoneTotal
set_option linter.unusedVariables false
set_option linter.unusedSimpArgs false
set_option linter.constructorNameAsVariable false
set_option linter.unusedSectionVars false
namespace Go.Proofs.YtmcfgljdpjalfaaV
open Go.RowKit Go.Proofs Go.Shelf Go.Lib Go.Sort

section
variable {α : Type} {E : α → AV} {ok : α → Prop} {sz : Nat} {Im : Nat → Prop} {φ : Emb} {s : St} {B : Nat} {w : World}
/-- An element and its cells. -/
def Good (E : α → AV) (ok : α → Prop) (sz : Nat) (Im : Nat → Prop) (φ : Emb) (s : St) (B : Nat) (w : World) (p : α × List Value) : Prop :=
  ok p.1 ∧ p.2.length = sz ∧ (∀ u ∈ p.2, u.oneCell' = true) ∧ rel Im φ s B w (E p.1) (.agg p.2.toArray)
theorem relF_els (hE : ∀ a, ∃ xs, E a = .agg xs) : ∀ (l : List α) (cs : List Value), (∀ a ∈ l, ok a) → relF Im φ s B w sz (l.map E) cs →
    ∃ els : List (α × List Value), els.map (·.1) = l ∧ (els.map (·.2)).flatten = cs ∧ ∀ p ∈ els, Good E ok sz Im φ s B w p
  | [], cs, _, h => by simp only [List.map_nil, relF] at h; subst h; exact ⟨[], rfl, rfl, by simp⟩
  | a :: l, cs, hok, h => by
    simp only [List.map_cons, relF] at h
    obtain ⟨v, r, rfl, h1, h2, h3, h4⟩ := h
    obtain ⟨els, e1, e2, e3⟩ := relF_els hE l r (fun b hb => hok b (by simp [hb])) h4
    obtain ⟨xs, hx⟩ := hE a
    have hv : v = .agg v.cells.toList.toArray := by
      rw [hx] at h3
      simp only [rel] at h3
      obtain ⟨ds, rfl, _⟩ := h3
      simp [Value.cells]
    refine ⟨(a, v.cells.toList) :: els, by simp [e1], by simp [e2], fun p hp => ?_⟩
    rcases List.mem_cons.1 hp with rfl | hp
    · exact ⟨hok a (by simp), by simpa using h1, h2, by show rel Im φ s B w (E a) (.agg v.cells.toList.toArray); rw [← hv]; exact h3⟩
    · exact e3 p hp
theorem els_relF : ∀ els : List (α × List Value), (∀ p ∈ els, Good E ok sz Im φ s B w p) → relF Im φ s B w sz ((els.map (·.1)).map E) (els.map (·.2)).flatten
  | [], _ => by simp [relF]
  | p :: els, h => by
    obtain ⟨_, h1, h2, h3⟩ := h p (by simp)
    simp only [List.map_cons, List.flatten_cons, relF]
    exact ⟨_, _, by simp [Value.cells], by simpa [Value.cells] using h1, by simpa [Value.cells] using h2, h3, els_relF els fun q hq => h q (by simp [hq])⟩
end
theorem flat_get {β : Type} {enc : β → List Value} {k : Nat} (hk : ∀ x, (enc x).length = k) (h0 : 0 < k) : ∀ (l : List β) (t : Nat), ((l.map enc).flatten)[t]? = (l[t / k]?).bind fun x => (enc x)[t % k]?
  | [], t => by simp
  | x :: l, t => by
    simp only [List.map_cons, List.flatten_cons]
    rcases Nat.lt_or_ge t k with h | h
    · rw [List.getElem?_append_left (by rw [hk]; exact h), Nat.div_eq_of_lt h, Nat.mod_eq_of_lt h]
      simp
    · obtain ⟨u, rfl⟩ : ∃ u, t = u + k := ⟨t - k, by omega⟩
      rw [List.getElem?_append_right (by rw [hk]; exact h), hk, Nat.add_sub_cancel, flat_get hk h0 l u, Nat.add_div_right _ h0, Nat.add_mod_right]
      simp
theorem flatK_toList {β : Type} [Inhabited β] {enc : β → List Value} {k : Nat} (hk : ∀ x, (enc x).length = k) (h0 : 0 < k) (d : Array β) : (flatK enc k d).toList = (d.toList.map enc).flatten := by
  apply List.ext_getElem?
  intro t
  rw [flat_get hk h0]
  by_cases ht : t < d.size * k
  · have hi : t / k < d.size := (Nat.div_lt_iff_lt_mul h0).2 ht
    have hj : t % k < (enc d[t / k]).length := by rw [hk]; exact Nat.mod_lt _ h0
    have h1 : (flatK enc k d).toList[t]? = some (flatK enc k d)[t]! := by
      rw [Array.getElem?_toList, getElem!_pos _ t (by simpa using ht), Array.getElem?_eq_getElem (by simpa using ht)]
    rw [h1, get_flatK enc k d t ht, getElem!_pos d (t / k) hi, getElem!_pos (enc d[t / k]) (t % k) hj]
    simp [hi, hj]
  · have hi : ¬ t / k < d.size := fun h => ht ((Nat.div_lt_iff_lt_mul h0).1 h)
    rw [List.getElem?_eq_none (by simp; omega), List.getElem?_eq_none (by simp; omega)]
    rfl
theorem putCells_take (F c : Array Value) (h : F.size ≤ c.size) : (putCells id 0 F c).size = c.size ∧ (putCells id 0 F c).toList.take F.size = F.toList := by
  refine ⟨by simp [putCells], ?_⟩
  apply List.ext_getElem?
  intro t
  rw [List.getElem?_take]
  split
  · rename_i ht
    have h2 : t < c.size := by omega
    rw [Array.getElem?_toList, Array.getElem?_toList]
    unfold putCells
    rw [Array.getElem?_mapIdx, Array.getElem?_eq_getElem h2, Array.getElem?_eq_getElem ht]
    simp [ht]
  · rw [Array.getElem?_toList, Array.getElem?_eq_none (by omega)]
/-- The kit's world of a sort. -/
theorem sortWorld_facts {β : Type} [Inhabited β] (enc : β → List Value) (k : Nat) (w : World) (blk m : Nat) (dk : Array β) (os : Array Obj) {cur : Array Value} {e : Nat} (h0 : w.heap[blk]? = some (.cells cur e (0, 0))) :
    w.grownBy (sortWorldK enc k w blk 0 m dk os) (some blk) ∧ w.drawn ≤ (sortWorldK enc k w blk 0 m dk os).drawn ∧ (sortWorldK enc k w blk 0 m dk os).heap[blk]? = some (.cells (putCells id 0 (flatK enc k dk) cur) e (0, 0)) := by
  have hlt : blk < w.heap.size := (Array.getElem?_eq_some_iff.1 h0).1
  refine ⟨⟨rfl, rfl, rfl, ?_, fun g hg hne => ?_⟩, Nat.le_add_right _ _, ?_⟩
  · simp [sortWorldK, grow, putRowK, putRow, mapBlock, Go.Sort.ahead]
  · have hne' : ¬ blk = g := fun e => hne (by rw [e])
    simp only [sortWorldK, grow, putRowK, putRow, mapBlock, Go.Sort.ahead]
    rw [Array.getElem?_append_left (by simpa using hg), Array.getElem?_modify, if_neg hne']
  · simp only [sortWorldK, grow, putRowK, putRow, mapBlock, Go.Sort.ahead]
    rw [Array.getElem?_append_left (by simpa using hlt), Array.getElem?_modify, if_pos rfl, h0]
    rfl
theorem swo_of {α : Type} {cf : α → α → Int} (h1 : ∀ a, cf a a = 0) (h2 : ∀ a b, cf b a = - cf a b) (h3 : ∀ a b d, cf a b ≤ 0 → cf b d ≤ 0 → cf a d ≤ 0) : SWO (ltOf cf) where
  irrefl x := by simp [ltOf, h1]
  trans x y z a b := by
    simp only [ltOf, decide_eq_true_eq] at *
    have := h3 x y z (by omega) (by omega)
    rcases Int.lt_or_eq_of_le this with h | h
    · exact h
    · have e := h2 x z
      have := h3 z x y (by omega) (by omega)
      have := h2 y z
      omega
  ntrans x y z a b := by
    simp only [ltOf, decide_eq_false_iff_not] at *
    have e1 := h2 x y
    have e2 := h2 y z
    have e3 := h2 x z
    have := h3 z y x (by omega) (by omega)
    omega
theorem below_grow {w w' : World} (h : Below w.heap.size w w') (hd : w.drawn ≤ w'.drawn) : ∃ q os', w' = grow (w.drewN q) os' := by
  refine ⟨w'.drawn - w.drawn, w'.heap.extract w.heap.size w'.heap.size, ?_⟩
  obtain ⟨h1, h2, h3, h4, h5⟩ := h
  have hh : w'.heap = w.heap ++ w'.heap.extract w.heap.size w'.heap.size := by
    apply Array.ext_getElem?
    intro k
    rcases Nat.lt_or_ge k w.heap.size with hk | hk
    · rw [Array.getElem?_append_left hk, h5 k hk]
    · rw [Array.getElem?_append_right hk, Array.getElem?_extract]
      split
      · congr 1; omega
      · rw [Array.getElem?_eq_none (by omega)]
  cases w; cases w'
  simp only [grow, World.drewN, World.mk.injEq] at *
  subst h1 h2 h3
  exact ⟨hh, rfl, by omega, rfl, rfl⟩

/-- slices.SortFunc on a whole own row of structs. -/
theorem sort_sound {P : Program} {ρ : Ren} (L : SlLaysF0.n6 P ρ) {sz : Nat} (hsz : 0 < sz) (aE : ∀ w, (isAgg (ρ.t 24)).run P w = .ok true w) (zE : ∀ w, (Go.sizeOf (ρ.t 24)).run P w = .ok sz w)
    (hen : Enters P (ρ.f 6)) {α : Type} {E : α → AV} (hP : Plain E) (hE : ∀ a, ∃ xs, E a = .agg xs) {ok : α → Prop} {cf : α → α → Int} (c1 : ∀ a, cf a a = 0) (c2 : ∀ a b, cf b a = - cf a b) (c3 : ∀ a b d, cf a b ≤ 0 → cf b d ≤ 0 → cf a d ≤ 0)
    {g : Nat} (hcmp : ∀ a b, ok a → ok b → Pure P g [E a, E b] [] (.int .i64 (cf a b))) (heg : Enters P g) {s : St} {n e : Nat} {l : List α} (hl : ∀ a ∈ l, ok a) (hlen : l.length < 4611686018427387904) (ha : s.at n = some (e, sz, l.map E)) :
    Fsound P (ρ.f 6) s [.so n 0 l.length, .fn g []] fun s' r => r = .tup [] ∧ ∃ l' : List α, l'.Perm l ∧ l'.Pairwise (fun a b => cf a b ≤ 0) ∧ s' = s.put n (e, sz, l'.map E) := by
  refine ⟨hen, fun Im φ B w vals hI hr => ?_⟩
  simp only [relL] at hr
  obtain ⟨v, _, rfl, hv, v2, _, rfl, hv2, rfl⟩ := hr
  simp only [rel, relL] at hv2
  obtain ⟨cs2, rfl, rfl⟩ := hv2
  have hput : ∀ (xs : List AV), xs = l.map E → s.put n (e, sz, xs) = s := by
    rintro xs rfl
    obtain ⟨b, r⟩ := s
    have hr : r[n]? = some (some (e, sz, l.map E)) := by
      simp only [St.at] at ha
      cases hq : r[n]? with
      | none => rw [hq] at ha; cases ha
      | some y => rw [hq] at ha; simp at ha; rw [ha]
    simp only [St.put, St.mk.injEq, true_and]
    exact List.ext_getElem? fun k => by
      rw [List.getElem?_set]
      split
      · rename_i hk'; subst hk'; rw [hr]; simp [(List.getElem?_eq_some_iff.1 hr).1]
      · rfl
  simp only [rel] at hv
  obtain ⟨_, hsl⟩ := hv.2 _ _ _ ha
  -- nothing to sort
  rcases Nat.eq_zero_or_pos l.length with h0 | h0
  · have hl0 : l = [] := List.eq_nil_of_length_eq_zero h0
    have hvs : ∃ A c, v = .slice A 0 c := by
      obtain ⟨A, c, h, _⟩ := hsl.slice
      rw [h0] at h
      exact ⟨A, c, h⟩
    obtain ⟨A, c, rfl⟩ := hvs
    refine (AnyF.slices_SortFunc_none L A c (.func (.func g) #[] #[]) w).mono fun e' w' hh => ?_
    obtain ⟨rfl, rfl⟩ := hh
    exact ⟨φ, s, .tup [], _, rfl, Step.refl .., hI, by simp [rel, relL], rfl, [], by rw [hl0], List.Pairwise.nil, by rw [hput _ (by rw [hl0])]⟩
  rcases hsl.2 with ⟨_, _, hz, _⟩ | ⟨gb, cap, p, h1, h2, h3, rfl, h5, h6⟩
  · omega
  have hp0 := h6 rfl
  subst hp0
  obtain ⟨_, k1 | ⟨g', cap', cur, cs, k1, k2, k3, k4, k5, k6, k7⟩⟩ := (hI.rows _ _ _ _ ha).pos hsl.1
  · rw [k1.1] at h1; cases h1
  rw [k1] at h1
  injection h1 with h1
  subst h1
  obtain ⟨els, e1, e2, e3⟩ := relF_els (ok := ok) hE l cs hl k6
  let β := {p : α × List Value // Good E ok sz Im φ s B w p}
  have hels : els ≠ [] := by rintro rfl; have : l = [] := by simpa using e1.symm
                             rw [this] at h0; simp at h0
  have : Inhabited β := ⟨⟨els.head hels, e3 _ (List.head_mem hels)⟩⟩
  let enc : β → List Value := fun x => x.1.2
  let cfb : β → β → Int := fun x y => cf x.1.1 y.1.1
  have hk : ∀ x : β, (enc x).length = sz := fun x => x.2.2.1
  let dl : List β := els.attach.map fun x => ⟨x.1, e3 _ x.2⟩
  have hdl : dl.map (·.1) = els := by
    simp only [dl, List.map_map, Function.comp_def]
    exact List.attach_map_subtype_val els
  have hdl1 : dl.map (fun x => x.1.1) = l := by
    have : dl.map (fun x => x.1.1) = (dl.map (·.1)).map (·.1) := by simp
    rw [this, hdl, e1]
  have hdl2 : dl.map enc = els.map (·.2) := by
    have : dl.map enc = (dl.map (·.1)).map (·.2) := by simp [enc]
    rw [this, hdl]
  let d : Array β := dl.toArray
  have hds : d.size = l.length := by
    have : dl.length = l.length := by rw [← hdl1]; simp
    simpa [d] using this
  have hcl := relF_len _ _ k6
  have hfit : l.length * sz ≤ cur.size := by rw [k3]; exact Nat.mul_le_mul_right _ (by simpa using k5)
  -- the worlds of the sort
  have hW : ∀ (m : Nat) (dk : Array β) (os : Array Obj), dk.size = d.size →
      Step B φ s w φ (s.put n (e, sz, (dk.toList.map fun x => x.1.1).map E)) (sortWorldK enc sz w g' 0 m dk os) ∧ Inv Im φ (s.put n (e, sz, (dk.toList.map fun x => x.1.1).map E)) B (sortWorldK enc sz w g' 0 m dk os) := by
    intro m dk os hdk
    obtain ⟨w1, w2, w3⟩ := sortWorld_facts enc sz w g' m dk os k2
    have hfs : (flatK enc sz dk).size = l.length * sz := by rw [size_flatK, hdk, hds]
    obtain ⟨p1, p2⟩ := putCells_take (flatK enc sz dk) cur (by omega)
    have hF := els_relF (ok := ok) (dk.toList.map (·.1)) (fun p hp => by
      obtain ⟨x, _, rfl⟩ := List.mem_map.1 hp
      exact x.2)
    have em : (dk.toList.map (·.1)).map (·.1) = dk.toList.map fun x => x.1.1 := by simp
    have em2 : ((dk.toList.map (·.1)).map (·.2)).flatten = (flatK enc sz dk).toList := by
      rw [flatK_toList hk hsz]
      simp [enc, Function.comp_def]
    rw [em, em2] at hF
    refine hI.putRow ha k1 k2 w1 w2 w3 p1 ?_ hF ?_
    · simp only [List.length_map, Array.length_toList]
      rw [hdk, hds]
    · have : ((dk.toList.map fun x => x.1.1).map E).length * sz = (flatK enc sz dk).size := by simp
      rw [this]
      exact p2
  have hH : HoldsK enc sz w g' 0 d := by
    intro t ht
    have ht' : t < (flatK enc sz d).size := ht
    have hft : (flatK enc sz d).toList = cs := by
      rw [flatK_toList hk hsz, ← e2, ← hdl2]
    refine ⟨?_, ?_⟩
    · have hc : cs[t]? = some (flatK enc sz d)[t]! := by
        rw [← hft, Array.getElem?_toList, getElem!_pos _ t ht', Array.getElem?_eq_getElem ht']
      rw [← k7, List.getElem?_take] at hc
      split at hc
      · simp only [Array.getElem?_toList] at hc
        rw [Nat.zero_add]
        simp [World.cell?, k2, hc]
      · cases hc
    · rw [Nat.zero_add]
      simp [World.frozen?, k2]
  have hlays : CmpLays P g #[] enc sz cfb g' 0 d.size w := by
    intro m os dk hdk x y
    obtain ⟨s1, s2⟩ := hW m dk os hdk
    have one : ∀ x : β, rel (ImA true Im φ (s.put n (e, sz, (dk.toList.map fun x => x.1.1).map E)) B) Emb.none St.empty (sortWorldK enc sz w g' 0 m dk os).heap.size (sortWorldK enc sz w g' 0 m dk os) (E x.1.1) (.agg (enc x).toArray) := fun x => by
      have := rel_ret (arg_ok s2 true) _ _ (rel_step s1 _ _ x.2.2.2.2)
      rwa [hP _ _ rfl] at this
    have hc := (hcmp x.1.1 y.1.1 x.2.1 y.2.1).2 _ _ [.agg (enc x).toArray, .agg (enc y).toArray] (by
      simp only [relL]
      exact ⟨_, _, rfl, one x, _, _, rfl, one y, rfl⟩)
    have e : (#[.agg (enc x).toArray, .agg (enc y).toArray] ++ #[] : Array Value) = [Value.agg (enc x).toArray, .agg (enc y).toArray].toArray := by simp
    rw [e]
    refine hc.mono fun e' w' hh => ?_
    obtain ⟨φr, v, rfl, ⟨hb, hd⟩, _, hv⟩ := hh
    simp only [rel] at hv
    subst hv
    exact ⟨rfl, below_grow hb hd⟩
  have main := AnyQ.slices_SortFunc L sz aE zE enc hk (fun x => x.2.2.2.1) cfb (swo_of (fun a => c1 _) (fun a b => c2 _ _) fun a b d => c3 _ _ _) g #[] g' 0 cap d w heg hlays hH (Array.getElem?_eq_some_iff.1 k2).1 (by rw [hds]; exact hlen)
  rw [hds] at main
  refine main.mono fun e' w' hh => ?_
  obtain ⟨rfl, d', m, os, hp, hso, rfl⟩ := hh
  obtain ⟨q1, _, q3⟩ := hp
  have hd' : d'.size = d.size := q1
  obtain ⟨s1, s2⟩ := hW m d' os hd'
  have hperm : d'.toList.Perm d.toList := by
    rw [← hds] at q3
    have a1 : d'.extract 0 d.size = d' := by rw [← hd']; simp
    have a2 : d.extract 0 d.size = d := by simp
    rw [a1, a2] at q3
    exact q3
  refine ⟨φ, _, .tup [], _, rfl, s1, s2, by simp [rel, relL], rfl, d'.toList.map fun x => x.1.1, ?_, ?_, rfl⟩
  · have := hperm.map (fun x : β => x.1.1)
    rw [← hdl1]
    exact this
  · rw [List.pairwise_map, List.pairwise_iff_getElem]
    intro i j hi hj hij
    have := hso i j (Nat.zero_le _) hij (by simp at hj; omega)
    simp at hi hj
    rw [getElem!_pos d' j hj, getElem!_pos d' i hi] at this
    simp only [ltOf, decide_eq_false_iff_not] at this
    have e := c2 (d'[i]).1.1 (d'[j]).1.1
    simp only [Array.getElem_toList]
    simp only [cfb] at this
    omega
end Go.Proofs.YtmcfgljdpjalfaaV
