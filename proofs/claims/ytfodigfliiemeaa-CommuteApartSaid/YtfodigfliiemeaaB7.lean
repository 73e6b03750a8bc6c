/- Lists of writes: plain laws. -/
import Derived.Test.YtfodigfliiemeaaB0
namespace Go.Proofs.YtfodigfliiemeaaA
/-! ### The order -/
theorem ahead_iff (a b : Cell) : ahead a b = true ↔ a.id < b.id ∨ a.id = b.id ∧ a.field < b.field := by
  rw [← ordI_neg]
  unfold ordI
  simp only [decide_eq_true_eq]
  split <;> omega
theorem same_iff (a b : Cell) : sameReg a b = true ↔ a.id = b.id ∧ a.field = b.field := by simp [sameReg]
theorem ahead_trans {a b c : Cell} (h : ahead a b = true) (k : ahead b c = true) : ahead a c = true := by rw [ahead_iff] at *; omega
theorem ahead_irr (a : Cell) : ahead a a = false := by rw [Bool.eq_false_iff, Ne, ahead_iff]; omega
theorem ahead_not_same {a b : Cell} (h : ahead a b = true) : sameReg a b = false := by rw [ahead_iff] at h; rw [Bool.eq_false_iff, Ne, same_iff]; omega
theorem same_refl (a : Cell) : sameReg a a = true := by rw [same_iff]; exact ⟨rfl, rfl⟩
theorem same_symm (a b : Cell) : sameReg a b = sameReg b a := by rw [Bool.eq_iff_iff, same_iff, same_iff]; omega
theorem same_trans {a b c : Cell} (h : sameReg a b = true) (k : sameReg b c = true) : sameReg a c = true := by rw [same_iff] at *; omega
theorem tri {a b : Cell} (h : ahead a b = false) (k : sameReg a b = false) : ahead b a = true := by
  rw [Bool.eq_false_iff, Ne, ahead_iff] at h
  rw [Bool.eq_false_iff, Ne, same_iff] at k
  rw [ahead_iff]
  omega
theorem tri' {a b : Cell} (h : ahead a b = false) (k : ahead b a = false) : sameReg a b = true := by
  rw [Bool.eq_false_iff, Ne, ahead_iff] at h k
  rw [same_iff]
  omega
theorem ahead_same {a b c : Cell} (h : ahead a b = true) (k : sameReg b c = true) : ahead a c = true := by rw [ahead_iff] at *; rw [same_iff] at k; omega
theorem same_ahead {a b c : Cell} (h : sameReg a b = true) (k : ahead b c = true) : ahead a c = true := by rw [ahead_iff] at *; rw [same_iff] at h; omega
/-- Sorted by register, each register once. -/
def Srt (l : List Cell) : Prop := l.Pairwise fun a b => ahead a b = true
def good (c : Cell) : Bool := validId c.id && decide (1 ≤ c.field) && decide (c.field < 48)
theorem wrB_iff (l : List Cell) : wrB l = true ↔ Srt l ∧ ∀ c ∈ l, good c = true := by
  constructor
  · intro h
    refine ⟨List.pairwise_iff_getElem.2 ?_, fun c hc => ?_⟩
    · intro i j hi hj hij
      induction j with
      | zero => omega
      | succ j ih =>
        have h1 := wrTo_at h hj
        simp only [okAt, List.getElem?_eq_getElem hj, List.getElem?_eq_getElem (show j < l.length by omega), Bool.and_eq_true] at h1
        have h2 : ahead l[j] l[j + 1] = true := h1.2
        by_cases e : i = j
        · subst e; exact h2
        · exact ahead_trans (ih (by omega) (by omega)) h2
    · obtain ⟨h1, h2, h3⟩ := wrB_ids h hc
      simp [good, h1, h2, h3]
  · rintro ⟨h, k⟩
    unfold wrB wrTo
    rw [List.all_eq_true]
    intro i hi
    have hi := List.mem_range.1 hi
    have k1 := k _ (List.getElem_mem hi)
    simp only [good, Bool.and_eq_true, decide_eq_true_eq] at k1
    simp only [okAt, List.getElem?_eq_getElem hi, k1, decide_true, Bool.true_and, Bool.and_true]
    cases i with
    | zero => rfl
    | succ j =>
      have := List.pairwise_iff_getElem.1 h j (j + 1) (by omega) hi (by omega)
      simp only [List.getElem?_eq_getElem (show j < l.length by omega)]
      exact this
theorem srt_cons {a : Cell} {l : List Cell} : Srt (a :: l) ↔ (∀ b ∈ l, ahead a b = true) ∧ Srt l := List.pairwise_cons
/-- Sorted lists with the same members are the same. -/
theorem srt_ext : ∀ {l m : List Cell}, Srt l → Srt m → (∀ c, c ∈ l ↔ c ∈ m) → l = m
  | [], [], _, _, _ => rfl
  | [], b :: m, _, _, h => by have := (h b).2 (by simp); simp at this
  | a :: l, [], _, _, h => by have := (h a).1 (by simp); simp at this
  | a :: l, b :: m, hl, hm, h => by
    obtain ⟨h1, h2⟩ := srt_cons.1 hl
    obtain ⟨k1, k2⟩ := srt_cons.1 hm
    have e : a = b := by
      have p := (h a).1 (by simp)
      have q := (h b).2 (by simp)
      simp only [List.mem_cons] at p q
      rcases p with p | p
      · exact p
      · rcases q with q | q
        · exact q.symm
        · have := ahead_trans (k1 a p) (h1 b q)
          rw [ahead_irr] at this
          cases this
    subst e
    have : l = m := srt_ext h2 k2 fun c => by
      have := h c
      simp only [List.mem_cons] at this
      constructor
      · intro hc
        rcases this.1 (.inr hc) with e | e
        · subst e; have := h1 c hc; rw [ahead_irr] at this; cases this
        · exact e
      · intro hc
        rcases this.2 (.inr hc) with e | e
        · subst e; have := k1 c hc; rw [ahead_irr] at this; cases this
        · exact e
    rw [this]
/-! ### One list after another one -/
theorem wr24_cons (b : Cell) (m : List Cell) (c : Cell) : wr24 (b :: m) c = (sameReg b c || wr24 m c) := rfl
theorem wr24_iff (l : List Cell) (c : Cell) : wr24 l c = true ↔ ∃ d ∈ l, sameReg d c = true := by simp [wr24]
theorem wr24_ahead {l : List Cell} {a : Cell} (h : ∀ d ∈ l, ahead a d = true) : wr24 l a = false := by
  rw [Bool.eq_false_iff, Ne, wr24_iff]
  rintro ⟨d, hd, hs⟩
  have := ahead_not_same (h d hd)
  rw [same_symm] at this
  rw [this] at hs
  cases hs
theorem srt_lt {a b : Cell} {m : List Cell} (hb : Srt (b :: m)) (h : ahead a b = true) : ∀ d ∈ b :: m, ahead a d = true := by
  intro d hd
  rcases List.mem_cons.1 hd with rfl | hd
  · exact h
  · exact ahead_trans h ((srt_cons.1 hb).1 d hd)
theorem over_mem (c : Cell) : ∀ {a b : List Cell}, Srt a → Srt b → (c ∈ over a b ↔ c ∈ b ∨ c ∈ a ∧ wr24 b c = false)
  | [], b, _, _ => by simp [nil_over]
  | a :: l, [], _, _ => by simp [over_nil, wr24]
  | a :: l, b :: m, ha, hb => by
    obtain ⟨h1, h2⟩ := srt_cons.1 ha
    obtain ⟨k1, k2⟩ := srt_cons.1 hb
    have i1 := over_mem c h2 hb
    have i2 := over_mem c ha k2
    rw [over]
    split
    · rename_i e
      rw [List.mem_cons, i1]
      have e1 := wr24_ahead (srt_lt hb e)
      grind
    · rename_i e
      split
      · rename_i e2
        rw [i1]
        have e1 : wr24 (b :: m) a = true := by rw [wr24_cons, same_symm, e2]; rfl
        grind
      · rename_i e2
        have e3 : ahead b a = true := tri (by simpa using e) (by simpa using e2)
        rw [List.mem_cons, i2]
        have e4 : ∀ x ∈ a :: l, sameReg b x = false := fun x hx => ahead_not_same (srt_lt ha e3 x hx)
        constructor
        · rintro (rfl | hc | ⟨hc, hw⟩)
          · simp
          · simp [hc]
          · exact .inr ⟨hc, by rw [wr24_cons, e4 c hc, hw]; rfl⟩
        · rintro (hc | ⟨hc, hw⟩)
          · rcases List.mem_cons.1 hc with rfl | hc
            · simp
            · simp [hc]
          · rw [wr24_cons, e4 c hc] at hw
            exact .inr (.inr ⟨hc, hw⟩)
termination_by a b => a.length + b.length
theorem over_sub {c : Cell} {a b : List Cell} (ha : Srt a) (hb : Srt b) (h : c ∈ over a b) : c ∈ b ∨ c ∈ a := by
  rw [over_mem c ha hb] at h
  rcases h with h | h
  · exact .inl h
  · exact .inr h.1
theorem over_srt : ∀ {a b : List Cell}, Srt a → Srt b → Srt (over a b)
  | [], b, _, hb => by rw [nil_over]; exact hb
  | a :: l, [], ha, _ => by rw [over_nil]; exact ha
  | a :: l, b :: m, ha, hb => by
    obtain ⟨h1, h2⟩ := srt_cons.1 ha
    obtain ⟨k1, k2⟩ := srt_cons.1 hb
    have i1 := over_srt h2 hb
    have i2 := over_srt ha k2
    rw [over]
    split
    · rename_i e
      refine srt_cons.2 ⟨fun x hx => ?_, i1⟩
      rcases over_sub h2 hb hx with hx | hx
      · exact srt_lt hb e x hx
      · exact h1 x hx
    · rename_i e
      split
      · exact i1
      · rename_i e2
        have e3 : ahead b a = true := tri (by simpa using e) (by simpa using e2)
        refine srt_cons.2 ⟨fun x hx => ?_, i2⟩
        rcases over_sub ha k2 hx with hx | hx
        · exact k1 x hx
        · exact srt_lt ha e3 x hx
termination_by a b => a.length + b.length
/-- What 'visit' composes is what 'Over' says. -/
theorem vis_over : ∀ {a b : List Cell} (o : List Cell), Srt a → Srt b → vis (fun c o => o ++ [c]) (fun c o => o ++ [c]) (fun _ d o => o ++ [d]) a b o = o ++ over a b
  | [], [], o, _, _ => by simp [vis, over]
  | a :: l, [], o, ha, hb => by
    obtain ⟨h1, h2⟩ := srt_cons.1 ha
    rw [vis, vis_over _ h2 hb]
    simp [over_nil]
  | [], b :: m, o, ha, hb => by
    obtain ⟨k1, k2⟩ := srt_cons.1 hb
    rw [vis, vis_over _ ha k2]
    simp [nil_over]
  | a :: l, b :: m, o, ha, hb => by
    obtain ⟨h1, h2⟩ := srt_cons.1 ha
    obtain ⟨k1, k2⟩ := srt_cons.1 hb
    rw [vis, over]
    split
    · rw [vis_over _ h2 hb]
      simp
    · rename_i e
      have e : ahead a b = false := by simpa using e
      split
      · rename_i e2
        have e3 : sameReg a b = false := by rw [same_symm]; exact ahead_not_same e2
        rw [vis_over _ ha k2, if_neg (by simp [e3])]
        simp
      · rename_i e2
        have e3 : sameReg a b = true := tri' e (by simpa using e2)
        rw [vis_over _ h2 k2, if_pos e3]
        have : over l (b :: m) = b :: over l m := by
          cases l with
          | nil => simp [nil_over]
          | cons x l =>
            have q1 : ahead b x = true := same_ahead (by rw [same_symm]; exact e3) (h1 x (by simp))
            have q2 : ahead x b = false := by
              rw [Bool.eq_false_iff]
              intro q
              have := ahead_trans q q1
              rw [ahead_irr] at this
              cases this
            have q3 : sameReg x b = false := by rw [same_symm]; exact ahead_not_same q1
            rw [over, if_neg (by simp [q2]), if_neg (by simp [q3])]
        rw [this]
        simp
termination_by a b => a.length + b.length
theorem vis_rest : ∀ {a b : List Cell} (o : List Cell), Srt a → Srt b → vis (fun c o => o ++ [c]) (fun _ o => o) (fun _ _ o => o) a b o = o ++ a.filter fun c => !wr24 b c
  | [], [], o, _, _ => by simp [vis]
  | a :: l, [], o, ha, hb => by
    obtain ⟨h1, h2⟩ := srt_cons.1 ha
    rw [vis, vis_rest _ h2 hb]
    simp [wr24]
  | [], b :: m, o, ha, hb => by
    obtain ⟨k1, k2⟩ := srt_cons.1 hb
    rw [vis, vis_rest _ ha k2]
    simp
  | a :: l, b :: m, o, ha, hb => by
    obtain ⟨h1, h2⟩ := srt_cons.1 ha
    obtain ⟨k1, k2⟩ := srt_cons.1 hb
    have key : ∀ {x : List Cell}, (∀ y ∈ x, ahead b y = true) → (x.filter fun c => !wr24 (b :: m) c) = x.filter fun c => !wr24 m c := fun {x} hx => by
      refine List.filter_congr fun y hy => ?_
      rw [wr24_cons, ahead_not_same (hx y hy), Bool.false_or]
    rw [vis]
    split
    · rename_i e
      rw [vis_rest _ h2 hb, List.filter_cons, wr24_ahead (srt_lt hb e)]
      simp
    · rename_i e
      have e : ahead a b = false := by simpa using e
      split
      · rename_i e2
        rw [vis_rest _ ha k2, key (srt_lt ha e2)]
      · rename_i e2
        have e3 : sameReg a b = true := tri' e (by simpa using e2)
        have e4 : sameReg b a = true := by rw [same_symm]; exact e3
        rw [vis_rest _ h2 k2, List.filter_cons, wr24_cons, e4, key fun y hy => same_ahead e4 (h1 y hy)]
        simp
termination_by a b => a.length + b.length
theorem vis_indep : ∀ {a b : List Cell} (x : Bool), Srt a → Srt b → vis (fun _ x => x) (fun _ x => x) (fun _ _ _ => false) a b x = (x && a.all fun c => !wr24 b c)
  | [], [], o, _, _ => by simp [vis]
  | a :: l, [], o, ha, hb => by
    obtain ⟨h1, h2⟩ := srt_cons.1 ha
    rw [vis, vis_indep _ h2 hb]
    simp [wr24]
  | [], b :: m, o, ha, hb => by
    obtain ⟨k1, k2⟩ := srt_cons.1 hb
    rw [vis, vis_indep _ ha k2]
    simp
  | a :: l, b :: m, o, ha, hb => by
    obtain ⟨h1, h2⟩ := srt_cons.1 ha
    obtain ⟨k1, k2⟩ := srt_cons.1 hb
    rw [vis]
    split
    · rename_i e
      rw [vis_indep _ h2 hb, List.all_cons, wr24_ahead (srt_lt hb e)]
      simp
    · rename_i e
      have e : ahead a b = false := by simpa using e
      split
      · rename_i e2
        rw [vis_indep _ ha k2]
        congr 1
        rw [Bool.eq_iff_iff, List.all_eq_true, List.all_eq_true]
        refine forall_congr' fun y => forall_congr' fun hy => ?_
        rw [wr24_cons, ahead_not_same (srt_lt ha e2 y hy), Bool.false_or]
      · rename_i e2
        have e3 : sameReg a b = true := tri' e (by simpa using e2)
        have e4 : sameReg b a = true := by rw [same_symm]; exact e3
        rw [vis_indep _ h2 k2, List.all_cons, wr24_cons, e4]
        simp
termination_by a b => a.length + b.length
theorem comp_eq (a b : List Cell) : comp a b = comp24 a b := by
  unfold comp comp24
  split
  · rename_i h
    rw [Bool.and_eq_true, wrB_iff, wrB_iff] at h
    rw [vis_over [] h.1.1 h.2.1, List.nil_append]
  · rfl
theorem rest_eq (a b : List Cell) : rest a b = rest24 a b := by
  unfold rest rest24
  split
  · rename_i h
    rw [Bool.and_eq_true, wrB_iff, wrB_iff] at h
    rw [vis_rest [] h.1.1 h.2.1, List.nil_append]
  · rfl
theorem indep_eq (a b : List Cell) : indep a b = indep24 a b := by
  unfold indep indep24
  cases h1 : wrB a with
  | false => simp
  | true =>
    cases h2 : wrB b with
    | false => simp
    | true =>
      rw [vis_indep true ((wrB_iff a).1 h1).1 ((wrB_iff b).1 h2).1, Bool.true_and, rest24, if_pos (by simp [h1, h2])]
      rw [Bool.eq_iff_iff, Bool.and_eq_true, Bool.and_eq_true]
      simp only [Bool.and_self, Bool.true_and, decide_eq_true_eq, List.all_eq_true, true_and]
      exact List.length_filter_eq_length_iff.symm
theorem over_same {a b : Cell} {l m : List Cell} (h : sameReg a b = true) (hl : ∀ x ∈ l, ahead a x = true) : over l (b :: m) = b :: over l m := by
  cases l with
  | nil => simp [nil_over]
  | cons x l =>
    have q1 : ahead b x = true := same_ahead (by rw [same_symm]; exact h) (hl x (by simp))
    have q2 : ahead x b = false := by
      rw [Bool.eq_false_iff]
      intro q
      have := ahead_trans q q1
      rw [ahead_irr] at this
      cases this
    have q3 : sameReg x b = false := by rw [same_symm]; exact ahead_not_same q1
    rw [over, if_neg (by simp [q2]), if_neg (by simp [q3])]
theorem one_eq (c : Cell) (l : List Cell) : one c ++ l.filter (fun c => !zeroV c) = (c :: l).filter fun c => !zeroV c := by
  rw [List.filter_cons, one]
  cases zeroV c <;> simp
theorem putR_eq : ∀ {l w : List Cell}, Srt l → Srt w → (∀ c ∈ l, zeroV c = false) → putR l w = (over l w).filter fun c => !zeroV c
  | l, [], _, _, h => by
    rw [over_nil]
    unfold putR
    exact (List.filter_eq_self.2 fun c hc => by simp [h c hc]).symm
  | [], c :: w, hl, hw, h => by
    rw [nil_over, putR, putR_eq hl (srt_cons.1 hw).2 h, nil_over, one_eq]
  | a :: l, c :: w, hl, hw, h => by
    obtain ⟨h1, h2⟩ := srt_cons.1 hl
    have h3 : ∀ x ∈ l, zeroV x = false := fun x hx => h x (List.mem_cons_of_mem _ hx)
    rw [putR, over]
    split
    · rw [putR_eq h2 hw h3, List.filter_cons, h a (by simp)]
      rfl
    · split
      · rename_i e
        rw [putR_eq h2 (srt_cons.1 hw).2 h3, over_same e h1, one_eq]
      · rw [putR_eq hl (srt_cons.1 hw).2 h, one_eq]
termination_by l w => l.length + w.length
/-- A list that may be put. -/
def Wr (l : List Cell) : Prop := Srt l ∧ ∀ c ∈ l, good c = true
theorem valB_iff (l : List Cell) : valB l = true ↔ Wr l ∧ ∀ c ∈ l, zeroV c = false := by
  rw [valB, Bool.and_eq_true, wrB_iff, solid, List.all_eq_true]
  simp only [Bool.not_eq_true']
  exact and_comm
theorem over_wr {a b : List Cell} (ha : Wr a) (hb : Wr b) : Wr (over a b) := by
  refine ⟨over_srt ha.1 hb.1, fun c hc => ?_⟩
  rcases over_sub ha.1 hb.1 hc with h | h
  · exact hb.2 c h
  · exact ha.2 c h
theorem put_eq {m w : List Cell} (hm : valB m = true) (hw : wrB w = true) : put m w = (over m w).filter fun c => !zeroV c := by
  rw [put, if_pos (by simp [hm, hw])]
  have h := (valB_iff m).1 hm
  exact putR_eq h.1.1 ((wrB_iff w).1 hw).1 h.2
theorem put_val {m w : List Cell} (hm : valB m = true) (hw : wrB w = true) : valB (put m w) = true := by
  rw [put_eq hm hw, valB_iff]
  have h := over_wr ((valB_iff m).1 hm).1 ((wrB_iff w).1 hw)
  refine ⟨⟨h.1.filter _, fun c hc => h.2 c (List.mem_filter.1 hc).1⟩, fun c hc => by simpa using (List.mem_filter.1 hc).2⟩
theorem put_mem {m w : List Cell} (hm : valB m = true) (hw : wrB w = true) (c : Cell) : c ∈ put m w ↔ zeroV c = false ∧ (c ∈ w ∨ c ∈ m ∧ wr24 w c = false) := by
  rw [put_eq hm hw, List.mem_filter, over_mem c ((valB_iff m).1 hm).1.1 ((wrB_iff w).1 hw).1, Bool.not_eq_true', and_comm]
theorem put_srt {m w : List Cell} (hm : valB m = true) (hw : wrB w = true) : Srt (put m w) := ((valB_iff _).1 (put_val hm hw)).1.1
theorem comp_over {a b : List Cell} (ha : wrB a = true) (hb : wrB b = true) : comp a b = over a b := by rw [comp_eq, comp24, if_pos (by simp [ha, hb])]
theorem comp_wr {a b : List Cell} (ha : wrB a = true) (hb : wrB b = true) : wrB (comp a b) = true := by
  rw [comp_over ha hb, wrB_iff]
  exact over_wr ((wrB_iff a).1 ha) ((wrB_iff b).1 hb)
theorem wr24_over {a b : List Cell} (ha : Srt a) (hb : Srt b) (c : Cell) : wr24 (over a b) c = (wr24 a c || wr24 b c) := by
  rw [Bool.eq_iff_iff, Bool.or_eq_true, wr24_iff, wr24_iff]
  constructor
  · rintro ⟨d, hd, hs⟩
    rcases over_sub ha hb hd with h | h
    · exact .inr ((wr24_iff b c).2 ⟨d, h, hs⟩)
    · exact .inl ⟨d, h, hs⟩
  · intro h
    by_cases k : wr24 b c = true
    · obtain ⟨d, hd, hs⟩ := (wr24_iff b c).1 k
      exact ⟨d, (over_mem d ha hb).2 (.inl hd), hs⟩
    · rcases h with ⟨d, hd, hs⟩ | h
      · refine ⟨d, (over_mem d ha hb).2 (.inr ⟨hd, ?_⟩), hs⟩
        rw [Bool.eq_false_iff]
        intro q
        obtain ⟨e, he, hes⟩ := (wr24_iff b d).1 q
        exact k ((wr24_iff b c).2 ⟨e, he, same_trans hes hs⟩)
      · exact absurd h k
theorem put_comp {m a b : List Cell} (hm : valB m = true) (ha : wrB a = true) (hb : wrB b = true) : put (put m a) b = put m (comp a b) := by
  refine srt_ext (put_srt (put_val hm ha) hb) (put_srt hm (comp_wr ha hb)) fun c => ?_
  rw [put_mem (put_val hm ha) hb, put_mem hm ha, put_mem hm (comp_wr ha hb), comp_over ha hb, over_mem c ((wrB_iff a).1 ha).1 ((wrB_iff b).1 hb).1, wr24_over ((wrB_iff a).1 ha).1 ((wrB_iff b).1 hb).1, Bool.or_eq_false_iff]
  grind
theorem comp_assoc {a b c : List Cell} (ha : wrB a = true) (hb : wrB b = true) (hc : wrB c = true) : comp (comp a b) c = comp a (comp b c) := by
  have sa := ((wrB_iff a).1 ha).1
  have sb := ((wrB_iff b).1 hb).1
  have sc := ((wrB_iff c).1 hc).1
  rw [comp_over (comp_wr ha hb) hc, comp_over ha (comp_wr hb hc), comp_over ha hb, comp_over hb hc]
  refine srt_ext (over_srt (over_srt sa sb) sc) (over_srt sa (over_srt sb sc)) fun x => ?_
  rw [over_mem x (over_srt sa sb) sc, over_mem x sa sb, over_mem x sa (over_srt sb sc), over_mem x sb sc, wr24_over sb sc, Bool.or_eq_false_iff]
  grind
theorem indep_spec {a b : List Cell} (h : indep a b = true) : wrB a = true ∧ wrB b = true ∧ (∀ c ∈ a, wr24 b c = false) ∧ ∀ c ∈ b, wr24 a c = false := by
  unfold indep at h
  simp only [Bool.and_eq_true] at h
  obtain ⟨⟨h1, h2⟩, h3⟩ := h
  rw [vis_indep true ((wrB_iff a).1 h1).1 ((wrB_iff b).1 h2).1, Bool.true_and, List.all_eq_true] at h3
  simp only [Bool.not_eq_true'] at h3
  refine ⟨h1, h2, h3, fun c hc => ?_⟩
  rw [Bool.eq_false_iff]
  intro q
  obtain ⟨d, hd, hs⟩ := (wr24_iff a c).1 q
  have := h3 d hd
  rw [Bool.eq_false_iff] at this
  exact this ((wr24_iff b d).2 ⟨c, hc, by rw [same_symm]; exact hs⟩)
theorem apart_val {m a b : List Cell} (hm : valB m = true) (h : indep a b = true) : valB (put (put m a) b) = true := by
  obtain ⟨ha, hb, _, _⟩ := indep_spec h
  exact put_val (put_val hm ha) hb
theorem apart_put {m a b : List Cell} (hm : valB m = true) (h : indep a b = true) : put (put m a) b = put (put m b) a := by
  obtain ⟨ha, hb, h1, h2⟩ := indep_spec h
  refine srt_ext (put_srt (put_val hm ha) hb) (put_srt (put_val hm hb) ha) fun c => ?_
  rw [put_mem (put_val hm ha) hb, put_mem hm ha, put_mem (put_val hm hb) ha, put_mem hm hb]
  have h1 := h1 c
  have h2 := h2 c
  grind
theorem apart_comp {a b : List Cell} (h : indep a b = true) : comp a b = comp b a := by
  obtain ⟨ha, hb, h1, h2⟩ := indep_spec h
  have sa := ((wrB_iff a).1 ha).1
  have sb := ((wrB_iff b).1 hb).1
  rw [comp_over ha hb, comp_over hb ha]
  refine srt_ext (over_srt sa sb) (over_srt sb sa) fun c => ?_
  rw [over_mem c sa sb, over_mem c sb sa]
  have h1 := h1 c
  have h2 := h2 c
  grind
theorem over_apart : ∀ {a b : List Cell}, (∀ c ∈ a, wr24 b c = false) → (over a b).length = a.length + b.length
  | [], b, _ => by simp [nil_over]
  | a :: l, [], _ => by simp [over_nil]
  | a :: l, b :: m, h => by
    have h1 := over_apart (a := l) (b := b :: m) fun c hc => h c (List.mem_cons_of_mem _ hc)
    have h2 := over_apart (a := a :: l) (b := m) fun c hc => by have := h c hc; rw [wr24_cons, Bool.or_eq_false_iff] at this; exact this.2
    have h3 := h a (by simp)
    rw [wr24_cons, Bool.or_eq_false_iff, same_symm] at h3
    rw [over]
    split
    · simp only [List.length_cons] at *; omega
    · rw [if_neg (by simp [h3.1])]
      simp only [List.length_cons] at *
      omega
termination_by a b => a.length + b.length
theorem apart_len {a b : List Cell} (h : indep a b = true) : (comp a b).length = a.length + b.length := by
  obtain ⟨ha, hb, h1, _⟩ := indep_spec h
  rw [comp_over ha hb]
  exact over_apart h1
end Go.Proofs.YtfodigfliiemeaaA
