/- The plain law of the crowds: groups in order of first appearance, sorted by their slots, are the groups of the document's answer. -/
import Derived.Test.YtmcfgljdpjalfaaD4
set_option linter.unusedVariables false
set_option linter.unusedSimpArgs false
set_option linter.constructorNameAsVariable false
set_option linter.unusedSectionVars false
namespace Go.Proofs.YtmcfgljdpjalfaaV
open Go.RowKit Go.Proofs
def keyC (c : CellV) : SpotV := ⟨c.v.ref, c.v.n⟩
def keyG (g : G2) : SpotV := ⟨g.id, g.field⟩
/-- Who stands in a slot. -/
def entsOf (cs : List CellV) (p : SpotV) : List Int := (cs.filter fun c => decide (keyC c = p)).map (·.id)
theorem entsOf_cat (cs : List CellV) (c : CellV) (p : SpotV) : entsOf (cs ++ [c]) p = entsOf cs p ++ if keyC c = p then [c.id] else [] := by
  unfold entsOf
  rw [List.filter_append, List.map_append]
  by_cases h : keyC c = p <;> simp [h]
/-- One more entity in a slot, by first appearance. -/
def addF : List G2 → CellV → List G2
  | [], c => [⟨c.v.ref, c.v.n, [c.id]⟩]
  | g :: L, c => if keyG g = keyC c then ⟨g.id, g.field, g.ents ++ [c.id]⟩ :: L else g :: addF L c
def groupsF (cs : List CellV) : List G2 := cs.foldl addF []
theorem addF_keys : ∀ (L : List G2) (c : CellV), (addF L c).map keyG = if keyC c ∈ L.map keyG then L.map keyG else L.map keyG ++ [keyC c]
  | [], c => by simp [addF, keyG, keyC]
  | g :: L, c => by
    have ih := addF_keys L c
    simp only [addF]
    by_cases h : keyG g = keyC c
    · rw [if_pos h]
      simp only [List.map_cons, List.mem_cons]
      rw [if_pos (.inl h.symm)]
      rfl
    · rw [if_neg h]
      simp only [List.map_cons, List.mem_cons, ih]
      have h' : ¬ keyC c = keyG g := fun e => h e.symm
      by_cases h2 : keyC c ∈ L.map keyG
      · rw [if_pos h2, if_pos (.inr h2)]
      · rw [if_neg h2, if_neg (fun q => by rcases q with q | q; exact h' q; exact h2 q)]
        rfl
/-- Groups that tell who stands where. -/
def GOk (cs : List CellV) (L : List G2) : Prop := (L.map keyG).Nodup ∧ (∀ p, p ∈ L.map keyG ↔ ∃ c ∈ cs, keyC c = p) ∧ ∀ g ∈ L, g.ents = entsOf cs (keyG g)
theorem entsOf_none {cs : List CellV} {p : SpotV} (h : ¬ ∃ c ∈ cs, keyC c = p) : entsOf cs p = [] := by
  unfold entsOf
  rw [List.filter_eq_nil_iff.2]
  · rfl
  · intro c hc
    simp only [decide_eq_true_eq]
    exact fun e => h ⟨c, hc, e⟩
theorem mem_new {cs : List CellV} {c : CellV} {p : SpotV} : (∃ x ∈ cs ++ [c], keyC x = p) ↔ (∃ x ∈ cs, keyC x = p) ∨ keyC c = p := by
  constructor
  · rintro ⟨x, hx, e⟩
    rcases List.mem_append.1 hx with hx | hx
    · exact .inl ⟨x, hx, e⟩
    · rw [List.mem_singleton.1 hx] at e; exact .inr e
  · rintro (⟨x, hx, e⟩ | e)
    · exact ⟨x, by simp [hx], e⟩
    · exact ⟨c, by simp, e⟩
theorem addF_ents {f : SpotV → List Int} : ∀ {L : List G2} {c : CellV}, (L.map keyG).Nodup → (∀ g ∈ L, g.ents = f (keyG g)) → (keyC c ∉ L.map keyG → f (keyC c) = []) → ∀ g ∈ addF L c, g.ents = f (keyG g) ++ if keyC c = keyG g then [c.id] else []
  | [], c, _, _, h0, g, hg => by
    simp only [addF, List.mem_singleton] at hg
    subst hg
    have := h0 (by simp)
    show [c.id] = f (keyC c) ++ if keyC c = keyC c then [c.id] else []
    rw [this]; simp
  | x :: L, c, hn, h, h0, g, hg => by
    simp only [List.map_cons, List.nodup_cons] at hn
    simp only [addF] at hg
    split at hg
    · rename_i e
      rcases List.mem_cons.1 hg with rfl | hg
      · show x.ents ++ [c.id] = f (keyG x) ++ if keyC c = keyG x then [c.id] else []
        rw [if_pos e.symm, h x (by simp)]
      · have : ¬ keyC c = keyG g := fun q => hn.1 (by rw [e, q]; exact List.mem_map_of_mem hg)
        rw [if_neg this, h g (by simp [hg])]; simp
    · rename_i e
      have e' : ¬ keyC c = keyG x := fun q => e q.symm
      rcases List.mem_cons.1 hg with rfl | hg
      · rw [if_neg e', h g (by simp)]; simp
      · exact addF_ents hn.2 (fun g hg => h g (by simp [hg])) (fun q => h0 (by simp [e', q])) g hg
theorem groupsF_ok (cs : List CellV) : ∀ i, i ≤ cs.length → GOk (cs.take i) (groupsF (cs.take i))
  | 0, _ => ⟨by simp [groupsF], by simp [groupsF], by simp [groupsF]⟩
  | i + 1, hi => by
    obtain ⟨h1, h2, h3⟩ := groupsF_ok cs i (by omega)
    have e : groupsF (cs.take (i + 1)) = addF (groupsF (cs.take i)) cs[i] := by
      unfold groupsF
      rw [List.take_succ_eq_append_getElem (by omega), List.foldl_append]
      rfl
    rw [e, List.take_succ_eq_append_getElem (by omega)]
    refine ⟨?_, fun p => ?_, fun g hg => ?_⟩
    · rw [addF_keys]
      split
      · exact h1
      · rename_i hne
        rw [List.nodup_append]
        refine ⟨h1, by simp, fun a ha b hb q => hne ?_⟩
        rw [List.mem_singleton.1 hb] at q
        rw [← q]; exact ha
    · rw [mem_new, addF_keys, ← h2]
      split
      · rename_i q
        constructor
        · exact .inl
        · rintro (h | h)
          · exact h
          · rw [← h]; exact q
      · simp only [List.mem_append, List.mem_singleton]
        constructor
        · rintro (h | h)
          · exact .inl h
          · exact .inr h.symm
        · rintro (h | h)
          · exact .inl h
          · exact .inr h.symm
    · rw [entsOf_cat]
      exact addF_ents h1 h3 (fun q => entsOf_none (by rw [← h2]; exact q)) g hg
/-- The order of slots. -/
def sAhead (a b : SpotV) : Prop := aheadB a.id a.field b.id b.field = true
theorem addR_mem : ∀ {L : List G2} {c : CellV} {p : SpotV}, p ∈ (addR L c).map keyG ↔ p ∈ L.map keyG ∨ p = keyC c
  | [], c, p => by simp [addR, keyG, keyC]
  | g :: L, c, p => by
    have ih := addR_mem (L := L) (c := c) (p := p)
    simp only [addR]
    split
    · simp only [List.map_cons, List.mem_cons, ih, or_assoc]
    · split
      · rename_i e
        have : keyC c = keyG g := by unfold keyC keyG; rw [e.1, e.2]
        simp only [List.map_cons, List.mem_cons, this]
        constructor
        · rintro (h | h)
          · exact .inr (by simpa [keyG] using h)
          · exact .inl (.inr h)
        · rintro ((h | h) | h)
          · exact .inl (by simpa [keyG] using h)
          · exact .inr h
          · exact .inl (by simpa [keyG] using h)
      · simp only [List.map_cons, List.mem_cons]
        constructor
        · rintro (h | h)
          · exact .inr (by simpa [keyG, keyC] using h)
          · exact .inl h
        · rintro (h | h)
          · exact .inr h
          · exact .inl (by simpa [keyG, keyC] using h)
theorem addR_sorted : ∀ {L : List G2} {c : CellV}, (L.map keyG).Pairwise sAhead → ((addR L c).map keyG).Pairwise sAhead
  | [], c, _ => by simp [addR]
  | g :: L, c, h => by
    simp only [List.map_cons, List.pairwise_cons] at h
    simp only [addR]
    split
    · rename_i ha
      simp only [List.map_cons, List.pairwise_cons]
      refine ⟨fun p hp => ?_, addR_sorted h.2⟩
      rcases addR_mem.1 hp with hp | rfl
      · exact h.1 p hp
      · exact ha
    · rename_i ha
      split
      · simp only [List.map_cons, List.pairwise_cons]
        exact ⟨fun p hp => h.1 p hp, h.2⟩
      · rename_i hb
        have hx : sAhead (keyC c) (keyG g) := by
          rcases ahead_tri g.id g.field c.v.ref c.v.n with h' | h' | h'
          · exact absurd h' ha
          · exact h'
          · exact absurd h' hb
        simp only [List.map_cons, List.pairwise_cons]
        refine ⟨fun p hp => ?_, h.1, h.2⟩
        rcases List.mem_cons.1 hp with rfl | hp
        · exact hx
        · exact aheadB_trans hx (h.1 p hp)
theorem addR_ents2 {f : SpotV → List Int} : ∀ {L : List G2} {c : CellV}, (L.map keyG).Pairwise sAhead → (∀ g ∈ L, g.ents = f (keyG g)) → (keyC c ∉ L.map keyG → f (keyC c) = []) → ∀ g ∈ addR L c, g.ents = f (keyG g) ++ if keyC c = keyG g then [c.id] else []
  | [], c, _, _, h0, g, hg => by
    simp only [addR, List.mem_singleton] at hg
    subst hg
    have := h0 (by simp)
    show [c.id] = f (keyC c) ++ if keyC c = keyC c then [c.id] else []
    rw [this]; simp
  | x :: L, c, hs, h, h0, g, hg => by
    simp only [List.map_cons, List.pairwise_cons] at hs
    simp only [addR] at hg
    have irr : ∀ p : SpotV, ¬ sAhead p p := fun p => by simp [sAhead, aheadB_irr]
    split at hg
    · rename_i ha
      have e' : ¬ keyC c = keyG x := fun q => irr (keyG x) (by rw [← q]; show aheadB _ _ _ _ = true; rw [show (keyC c).id = x.id by rw [q]; rfl, show (keyC c).field = x.field by rw [q]; rfl]; rw [show x.id = (keyC c).id by rw [q]; rfl, show x.field = (keyC c).field by rw [q]; rfl] at ha; rw [show x.id = (keyC c).id by rw [q]; rfl, show x.field = (keyC c).field by rw [q]; rfl]; exact ha)
      rcases List.mem_cons.1 hg with rfl | hg
      · rw [if_neg e', h g (by simp)]; simp
      · exact addR_ents2 hs.2 (fun g hg => h g (by simp [hg])) (fun q => h0 (by simp [e', q])) g hg
    · rename_i ha
      split at hg
      · rename_i e
        have ek : keyC c = keyG x := by unfold keyC keyG; rw [e.1, e.2]
        rcases List.mem_cons.1 hg with rfl | hg
        · show x.ents ++ [c.id] = f (keyG x) ++ if keyC c = keyG x then [c.id] else []
          rw [if_pos ek, h x (by simp)]
        · have : ¬ keyC c = keyG g := fun q => by
            have := hs.1 (keyG g) (List.mem_map_of_mem hg)
            rw [← ek, q] at this
            exact irr _ this
          rw [if_neg this, h g (by simp [hg])]; simp
      · rename_i hb
        have hx : sAhead (keyC c) (keyG x) := by
          rcases ahead_tri x.id x.field c.v.ref c.v.n with h' | h' | h'
          · exact absurd h' ha
          · exact h'
          · exact absurd h' hb
        have hno : keyC c ∉ (x :: L).map keyG := fun q => by
          simp only [List.map_cons, List.mem_cons] at q
          rcases q with q | q
          · rw [q] at hx; exact irr _ hx
          · exact irr _ (aheadB_trans hx (hs.1 _ q))
        rcases List.mem_cons.1 hg with rfl | hg
        · show [c.id] = f (keyC c) ++ if keyC c = keyC c then [c.id] else []
          rw [h0 hno]; simp
        · have : ¬ keyC c = keyG g := fun q => hno (by rw [q]; exact List.mem_map_of_mem hg)
          rw [if_neg this, h g hg]; simp
theorem groupsR_ok (l : List CellV) : ∀ i, i ≤ l.length → ((groupsR (l.take i)).map keyG).Pairwise sAhead ∧ (∀ p, p ∈ (groupsR (l.take i)).map keyG ↔ ∃ c ∈ (l.take i).filter crowdB, keyC c = p) ∧ ∀ g ∈ groupsR (l.take i), g.ents = entsOf ((l.take i).filter crowdB) (keyG g)
  | 0, _ => ⟨by simp [groupsR], by simp [groupsR], by simp [groupsR]⟩
  | i + 1, hi => by
    obtain ⟨h1, h2, h3⟩ := groupsR_ok l i (by omega)
    rw [groupsR_suc l i (by omega), List.take_succ_eq_append_getElem (by omega), List.filter_append]
    by_cases hc : crowdB l[i] = true
    · simp only [hc, if_true, List.filter_cons, List.filter_nil]
      refine ⟨addR_sorted h1, fun p => ?_, fun g hg => ?_⟩
      · rw [mem_new, addR_mem, h2]
        constructor
        · rintro (h | h)
          · exact .inl h
          · exact .inr h.symm
        · rintro (h | h)
          · exact .inl h
          · exact .inr h.symm
      · rw [entsOf_cat]
        exact addR_ents2 h1 h3 (fun q => entsOf_none (by rw [← h2]; exact q)) g hg
    · have e : [l[i]].filter crowdB = [] := by simp [hc]
      rw [e, List.append_nil, if_neg hc]
      exact ⟨h1, h2, h3⟩
theorem sa_unique : ∀ (l m : List SpotV), l.Pairwise sAhead → m.Pairwise sAhead → (∀ y, y ∈ l ↔ y ∈ m) → l = m
  | [], [], _, _, _ => rfl
  | [], b :: m, _, _, h => by have := (h b).2 (by simp); simp at this
  | a :: l, [], _, _, h => by have := (h a).1 (by simp); simp at this
  | a :: l, b :: m, hl, hm, h => by
    have irr : ∀ p : SpotV, ¬ sAhead p p := fun p => by simp [sAhead, aheadB_irr]
    rw [List.pairwise_cons] at hl hm
    have hab : a = b := by
      have h1 := (h a).1 (by simp)
      have h2 := (h b).2 (by simp)
      rcases List.mem_cons.1 h1 with h1 | h1
      · exact h1
      · rcases List.mem_cons.1 h2 with h2 | h2
        · exact h2.symm
        · exact absurd (aheadB_trans (hl.1 b h2) (hm.1 a h1)) (irr a)
    subst hab
    have na : ∀ {L : List SpotV}, (∀ z ∈ L, sAhead a z) → ∀ z ∈ L, ¬ z = a := fun H z hz e => irr a (by have := H z hz; rwa [e] at this)
    rw [sa_unique l m hl.2 hm.2 fun y => by
      constructor
      · intro hy
        rcases List.mem_cons.1 ((h y).1 (by simp [hy])) with h' | h'
        · exact absurd h' (na hl.1 y hy)
        · exact h'
      · intro hy
        rcases List.mem_cons.1 ((h y).2 (by simp [hy])) with h' | h'
        · exact absurd h' (na hm.1 y hy)
        · exact h']
/-- The order of the program's sort of slots. -/
def cfSp (a b : SpotV) : Int := if a.id = b.id then cmpI a.field b.field else cmpI a.id b.id
theorem cfSp_ahead {a b : SpotV} (h : cfSp a b ≤ 0) (hne : a ≠ b) : sAhead a b := by
  unfold cfSp cmpI at h
  unfold sAhead aheadB
  simp only [Bool.or_eq_true, Bool.and_eq_true, decide_eq_true_eq]
  have : ¬ (a.id = b.id ∧ a.field = b.field) := fun ⟨p, q⟩ => hne (by cases a; cases b; simp_all)
  repeat' split at h
  all_goals omega
/-- The places of the program, sorted, are the places of the document's groups. -/
theorem places_eq (l : List CellV) (ps : List SpotV) (hp : ps.Perm ((groupsF (l.filter crowdB)).map keyG)) (hs : ps.Pairwise fun a b => cfSp a b ≤ 0) : ps = (groupsR l).map keyG := by
  have hF := groupsF_ok (l.filter crowdB) _ (Nat.le_refl _)
  have hR := groupsR_ok l _ (Nat.le_refl _)
  rw [List.take_length] at hF hR
  refine sa_unique _ _ ?_ hR.1 fun y => ?_
  · have hn : ps.Nodup := hp.nodup_iff.2 hF.1
    exact (List.Pairwise.and hs hn).imp fun ⟨h1, h2⟩ => cfSp_ahead h1 h2
  · rw [hp.mem_iff, hF.2.1, hR.2.1]
/-- What a group of the program's map tells. -/
theorem ents_eq (l : List CellV) : (∀ g ∈ groupsF (l.filter crowdB), g.ents = entsOf (l.filter crowdB) (keyG g)) ∧ ∀ g ∈ groupsR l, g.ents = entsOf (l.filter crowdB) (keyG g) := by
  have hF := groupsF_ok (l.filter crowdB) _ (Nat.le_refl _)
  have hR := groupsR_ok l _ (Nat.le_refl _)
  rw [List.take_length] at hF hR
  exact ⟨hF.2.2, hR.2.2⟩
/-- A sorted state's crowds have ascending numbers. -/
theorem readF_id {x : SlotV} {c : CellV} (h : readF x = some c) : c.id = x.id ∧ c.field = x.field := by
  unfold readF at h
  split at h
  · cases h
  · split at h
    · cases h
    · injection h with h; subst h; exact ⟨rfl, rfl⟩
theorem cells_sorted {s : List SlotV} (h : SortedS s) : (modelF s).Pairwise fun a b => aheadB a.id a.field b.id b.field = true := by
  unfold modelF
  refine List.Pairwise.filterMap readF (R := fun (a b : SlotV) => aheadB a.id a.field b.id b.field = true) ?_ h
  intro a b hab c hc d hd
  obtain ⟨e1, e2⟩ := readF_id hc
  obtain ⟨e3, e4⟩ := readF_id hd
  rw [e1, e2, e3, e4]; exact hab
theorem ents_sorted {s : List SlotV} (h : SortedS s) (p : SpotV) : (entsOf ((modelF s).filter crowdB) p).Pairwise (· < ·) := by
  unfold entsOf
  rw [List.pairwise_map]
  have h1 : ((modelF s).filter crowdB).Pairwise fun a b => a.id < b.id := by
    have h2 := (cells_sorted h).filter crowdB
    have h3 : ((modelF s).filter crowdB).Pairwise fun a b => crowdB a = true ∧ crowdB b = true := List.pairwise_iff_getElem.2 fun i j hi hj _ => ⟨(List.mem_filter.1 (List.getElem_mem hi)).2, (List.mem_filter.1 (List.getElem_mem hj)).2⟩
    refine (h2.and h3).imp fun {a b} ⟨q1, q2, q3⟩ => ?_
    simp only [crowdB, Bool.and_eq_true, decide_eq_true_eq] at q2 q3
    simp only [aheadB, Bool.or_eq_true, Bool.and_eq_true, decide_eq_true_eq] at q1
    omega
  exact h1.filter _
end Go.Proofs.YtmcfgljdpjalfaaV
