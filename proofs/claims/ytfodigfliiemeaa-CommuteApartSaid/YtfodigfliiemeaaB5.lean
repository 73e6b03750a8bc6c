/- The package commute: what its functions answer. -/
import Derived.Test.YtfodigfliiemeaaB4
namespace Go.Proofs.YtfodigfliiemeaaA
open Go.RowKit Go.Proofs
attribute [local simp ↓] run_nil run_seq run_skip run_region run_draw run_cond run_block run_exit run_ret run_b run_l rexit_c rexit_l rexit_b rops_nil rplan_nil rops_cons rops_guard rplan_cons condR_true condR_false
attribute [local simp] planR_some planR_guard rrest_o rrest_p gS_some gR_tt gR_ff gR_ft gR_tf gR_tup valP_some valP_none valE_some valE_none valS_some opR_move opR_assign opR_pick opR_binOp opR_unOp opR_convert opR_extract opR_field opR_fieldAddr opR_indexAddr opR_index opR_slice opR_makeFunc opR_build opR_load opR_loadl opR_p opR_store opR_alloc opR_box opR_buildSlice opR_makeSlice opR_allocc opR_boxc opR_buildSlicec opR_makeSlicec opR_len opR_append opR_call opR_callc
attribute [local simp] evP boxAV allocAV okCells_agg okCells_sl okCells_int okCells_bool okCells_str okCells_nilp okCells_nilfn okCells_ptr okCells_fn loadAV storeAV partAV partAV0 fieldAV fieldAddrAV indexAddrAV indexAV lenAV sliceAV boundAV fieldAt? elemOf? kindOf look cst updO upd dstOk binAV_int binAV_str binAV_bool binAV_fn binAV_nilfn binAV_agg binInt binStr isShift shiftInt unAV convAV TD.agg RetQ resAV resAVs resAV1 F0 conv_int conv_bool conv_str AV.allT AV.ret AV.allTL AV.retL St.empty fnOf_fn gslot buildAV fillAV placesAV buildSliceAV makeSliceAV fillE zeroElem? Tok.cut Tok.frz Tok.ok Tok.okR Tok.ren Tok.noRo Tok.shift addToks_zero live_last' new_box Tok.fixed le_refl leL_refl le_agg le_tup le_int le_bool le_str le_nil leL_nil leL_cons
attribute [local simp] T3 T4 T9 T22 T34 T36 T37 T38 T40 T46 eqV10 eqC10 eqOp zeroV_eq sameV_eq cell_eq allTL_cells retL_cells
/-- A variable with a list that is grown. -/
def Jout (q n : Nat) (o : List Cell) (s : St) : Prop := ∃ K, s.box[q]? = some (22, [slO 36 6 K (o.map encCell)]) ∧ okO s K = true ∧ (K = none → o = []) ∧ o.length ≤ n
theorem Jout.grow {q n : Nat} {o : List Cell} {s : St} (y : Nat × List AV) (hq : q < s.box.length) (h : Jout q n o s) : Jout q n o ⟨s.box ++ [y], s.tok⟩ := by
  obtain ⟨K, h1, h2, h3, h4⟩ := h
  exact ⟨K, by rw [List.getElem?_append_left hq]; exact h1, okO_box h2, h3, h4⟩
theorem Jout.done {q n : Nat} {o : List Cell} {s : St} (c : Cell) {ys : List (Nat × List AV)} {t : Nat} {tk : List Bool} (hq : q < s.box.length) (hn : o.length ≤ n) (hl : tk.getD t false = true) :
    Jout q (n + 1) (o ++ [c]) ⟨(s.box ++ ys).set q (22, [.sl 36 6 (.own t) (o.map encCell ++ [encCell c])]), tk⟩ ∧ Keep q s ⟨(s.box ++ ys).set q (22, [.sl 36 6 (.own t) (o.map encCell ++ [encCell c])]), tk⟩ := by
  refine ⟨⟨some t, ?_, hl, by simp, by simp; omega⟩, Keep.set⟩
  have : q < (s.box ++ ys).length := by simp; omega
  rw [List.getElem?_set_self this]
  simp [slO]
theorem append_jout {s : St} {K : Option Nat} {o : List Cell} (hK : okO s K = true) (hn : K = none → o = []) (ho : o.length ≤ 5000000) (c : Cell) :
    appendAV (tabOf Try.prog) (s.new none) 22 (slO 36 6 K (o.map encCell)) (.sl 36 6 (.own s.tok.length) [encCell c]) = some (slC (.own (s.new none).tok.length) (o ++ [c]), (s.new none).new K) := by
  have := append_slO (T := tabOf Try.prog) (ys := [encCell c]) (e' := 36) (xs := o.map encCell) elem22 (okO_new hK) (fun h => by simp [hn h]) (tk := .own s.tok.length) (live_last' s none) rfl (by show 0 < 6; omega) (by show _ * 56 ≤ _; simp; omega) (by simp; omega)
  rw [this]
  show some (AV.sl 36 6 _ (o.map encCell ++ [encCell c]), _) = _
  simp
theorem Jout.same {q n : Nat} {o : List Cell} {s : St} (ys : List (Nat × List AV)) (hq : q < s.box.length) (h : Jout q n o s) : Jout q (n + 1) o ⟨s.box ++ ys, s.tok⟩ ∧ Keep q s ⟨s.box ++ ys, s.tok⟩ := by
  obtain ⟨K, h1, h2, h3, h4⟩ := h
  exact ⟨⟨K, by rw [List.getElem?_append_left hq]; exact h1, okO_box h2, h3, by omega⟩, ⟨by simp, fun p hp _ => by simp [List.getElem?_append_left hp]⟩⟩
theorem rest1_sound {q M n : Nat} {o : List Cell} {s : St} (c : Cell) (hn : n < M) (hM : M ≤ 5000000) (h : Jout q n o s) (hq : q < s.box.length) : Fsound Try.prog 27 s ([encCell c] ++ [.ptr q 0]) fun s' _ => Jout q (n + 1) (o ++ [c]) s' ∧ Keep q s s' := by
  obtain ⟨K, h1, h2, h3, h4⟩ := h
  have hb : ∀ ys, (s.box ++ ys)[q]? = some (22, [slO 36 6 K (o.map encCell)]) := fun y => by rw [List.getElem?_append_left hq]; exact h1
  have hap := append_jout (s := ⟨s.box ++ [(36, [.int .i64 c.id, .int .i64 c.field, .int .i64 c.n, .bool c.flag, .str c.text, .int .i64 c.ref])], s.tok⟩) (okO_box h2) h3 (by omega) c
  simp only [encCell] at hap
  refine Fsound.of_run hmix Try.func27 (by kernel_rfl) rfl ⟨Try.ntmps27, by simp⟩ ?_
  simp [encCell, hb, hap]
  exact Jout.done c hq h4 (live_last' _ _)
theorem comp1_sound {q M n : Nat} {o : List Cell} {s : St} (c : Cell) (hn : n < M) (hM : M ≤ 5000000) (h : Jout q n o s) (hq : q < s.box.length) : Fsound Try.prog 24 s ([encCell c] ++ [.ptr q 0]) fun s' _ => Jout q (n + 1) (o ++ [c]) s' ∧ Keep q s s' := by
  obtain ⟨K, h1, h2, h3, h4⟩ := h
  have hb : ∀ ys, (s.box ++ ys)[q]? = some (22, [slO 36 6 K (o.map encCell)]) := fun y => by rw [List.getElem?_append_left hq]; exact h1
  have hap := append_jout (s := ⟨s.box ++ [(36, [.int .i64 c.id, .int .i64 c.field, .int .i64 c.n, .bool c.flag, .str c.text, .int .i64 c.ref])], s.tok⟩) (okO_box h2) h3 (by omega) c
  simp only [encCell] at hap
  refine Fsound.of_run hmix Try.func24 (by kernel_rfl) rfl ⟨Try.ntmps24, by simp⟩ ?_
  simp [encCell, hb, hap]
  exact Jout.done c hq h4 (live_last' _ _)
theorem inv1_sound {q M n : Nat} {o : List Cell} {s : St} (c : Cell) (hn : n < M) (hM : M ≤ 5000000) (h : Jout q n o s) (hq : q < s.box.length) : Fsound Try.prog 31 s ([encCell c] ++ [.ptr q 0]) fun s' _ => Jout q (n + 1) (o ++ [zeroed c]) s' ∧ Keep q s s' := by
  obtain ⟨K, h1, h2, h3, h4⟩ := h
  have hb : ∀ ys, (s.box ++ ys)[q]? = some (22, [slO 36 6 K (o.map encCell)]) := fun y => by rw [List.getElem?_append_left hq]; exact h1
  have hap := append_jout (s := ⟨s.box ++ [(36, [.int .i64 c.id, .int .i64 c.field, .int .i64 c.n, .bool c.flag, .str c.text, .int .i64 c.ref])], s.tok⟩) (okO_box h2) h3 (by omega) (zeroed c)
  simp only [encCell, zeroed] at hap
  refine Fsound.of_run hmix Try.func31 (by kernel_rfl) rfl ⟨Try.ntmps31, by simp⟩ ?_
  simp [encCell, hb, hap]
  exact Jout.done (zeroed c) hq h4 (live_last' _ _)
theorem inv2_sound {q M n : Nat} {o : List Cell} {s : St} (c d : Cell) (hn : n < M) (hM : M ≤ 5000000) (h : Jout q n o s) (hq : q < s.box.length) : Fsound Try.prog 32 s ([encCell c, encCell d] ++ [.ptr q 0]) fun s' _ => Jout q (n + 1) (o ++ [c]) s' ∧ Keep q s s' := by
  obtain ⟨K, h1, h2, h3, h4⟩ := h
  have hb : ∀ ys, (s.box ++ ys)[q]? = some (22, [slO 36 6 K (o.map encCell)]) := fun y => by rw [List.getElem?_append_left hq]; exact h1
  have hap := append_jout (s := ⟨s.box ++ [(36, [.int .i64 c.id, .int .i64 c.field, .int .i64 c.n, .bool c.flag, .str c.text, .int .i64 c.ref]), (36, [.int .i64 d.id, .int .i64 d.field, .int .i64 d.n, .bool d.flag, .str d.text, .int .i64 d.ref])], s.tok⟩) (okO_box h2) h3 (by omega) c
  simp only [encCell] at hap
  refine Fsound.of_run hmix Try.func32 (by kernel_rfl) rfl ⟨Try.ntmps32, by simp⟩ ?_
  simp [encCell, hb, hap]
  exact Jout.done c hq h4 (live_last' _ _)
theorem least1_sound {q M n : Nat} {o : List Cell} {s : St} (c : Cell) (hn : n < M) (hM : M ≤ 5000000) (h : Jout q n o s) (hq : q < s.box.length) : Fsound Try.prog 33 s ([encCell c] ++ [.ptr q 0]) fun s' _ => Jout q (n + 1) (if zeroV c then o else o ++ [c]) s' ∧ Keep q s s' := by
  obtain ⟨K, h1, h2, h3, h4⟩ := h
  have hb : ∀ ys, (s.box ++ ys)[q]? = some (22, [slO 36 6 K (o.map encCell)]) := fun y => by rw [List.getElem?_append_left hq]; exact h1
  have hap := append_jout (s := ⟨s.box ++ [(36, [.int .i64 c.id, .int .i64 c.field, .int .i64 c.n, .bool c.flag, .str c.text, .int .i64 c.ref])], s.tok⟩) (okO_box h2) h3 (by omega) c
  simp only [encCell] at hap
  refine Fsound.of_run hmix Try.func33 (by kernel_rfl) rfl ⟨Try.ntmps33, by simp⟩ ?_
  simp [encCell]
  refine condR_mk (fun h9 => ?_) (fun h9 => ?_) <;> simp only [Bool.not_eq_true', Bool.not_eq_false'] at h9
  · simp [hb, hap, h9]
    exact Jout.done c hq h4 (live_last' _ _)
  · simp [h9]
    exact Jout.same _ hq ⟨K, h1, h2, h3, h4⟩
theorem least2_sound {q M n : Nat} {o : List Cell} {s : St} (c d : Cell) (hn : n < M) (hM : M ≤ 5000000) (h : Jout q n o s) (hq : q < s.box.length) : Fsound Try.prog 34 s ([encCell c, encCell d] ++ [.ptr q 0]) fun s' _ => Jout q (n + 1) (if sameV c d then o else o ++ [d]) s' ∧ Keep q s s' := by
  obtain ⟨K, h1, h2, h3, h4⟩ := h
  have hb : ∀ ys, (s.box ++ ys)[q]? = some (22, [slO 36 6 K (o.map encCell)]) := fun y => by rw [List.getElem?_append_left hq]; exact h1
  have hap := append_jout (s := ⟨s.box ++ [(36, [.int .i64 c.id, .int .i64 c.field, .int .i64 c.n, .bool c.flag, .str c.text, .int .i64 c.ref]), (36, [.int .i64 d.id, .int .i64 d.field, .int .i64 d.n, .bool d.flag, .str d.text, .int .i64 d.ref])], s.tok⟩) (okO_box h2) h3 (by omega) d
  simp only [encCell] at hap
  refine Fsound.of_run hmix Try.func34 (by kernel_rfl) rfl ⟨Try.ntmps34, by simp⟩ ?_
  simp [encCell]
  refine condR_mk (fun h9 => ?_) (fun h9 => ?_) <;> simp only [Bool.not_eq_true', Bool.not_eq_false'] at h9 <;> simp only [h9, if_true]
  · simp [hb, hap]
    exact Jout.done d hq h4 (live_last' _ _)
  · simp
    exact Jout.same _ hq ⟨K, h1, h2, h3, h4⟩
def Jb (q _n : Nat) (b : Bool) (s : St) : Prop := s.box[q]? = some (4, [.bool b])
theorem ind1_sound {q n : Nat} {b : Bool} {s : St} (c d : Cell) (h : Jb q n b s) (hq : q < s.box.length) : Fsound Try.prog 21 s ([encCell c, encCell d] ++ [.ptr q 0]) fun s' _ => Jb q (n + 1) false s' ∧ Keep q s s' := by
  have hb : ∀ ys, (s.box ++ ys)[q]? = some (4, [.bool b]) := fun y => by rw [List.getElem?_append_left hq]; exact h
  refine Fsound.of_run hmix Try.func21 (by kernel_rfl) rfl ⟨Try.ntmps21, by simp⟩ ?_
  simp [encCell, hb]
  refine ⟨?_, Keep.set⟩
  unfold Jb
  rw [List.getElem?_set_self (by simp; omega)]
/-- Two variables: the list, and the function that appends to it. -/
def Jc (q q2 n : Nat) (o : List Cell) (s : St) : Prop := Jout q n o s ∧ s.box[q2]? = some (38, [.fn 24 [.ptr q 0]]) ∧ q ≠ q2
theorem comp1c_sound {q q2 M n : Nat} {o : List Cell} {s : St} (c : Cell) (hn : n < M) (hM : M ≤ 5000000) (h : Jc q q2 n o s) (hq : q < s.box.length) : Fsound Try.prog 24 s ([encCell c] ++ [.ptr q 0]) fun s' _ => Jc q q2 (n + 1) (o ++ [c]) s' ∧ Keep q s s' := by
  obtain ⟨h1, h2, h3⟩ := h
  refine ⟨(comp1_sound c hn hM h1 hq).1, fun Im φ B w vals hI hr => ((comp1_sound c hn hM h1 hq).2 Im φ B w vals hI hr).mono fun e w' hh => ?_⟩
  obtain ⟨φ', s', r, v, k1, k2, k3, k4, k5, k6⟩ := hh
  exact ⟨φ', s', r, v, k1, k2, k3, k4, ⟨k5, (k6.2 _ (List.getElem?_eq_some_iff.1 h2).1 (Ne.symm h3)).trans h2, h3⟩, k6⟩
theorem comp2c_sound {q q2 M n : Nat} {o : List Cell} {s : St} (c d : Cell) (hn : n < M) (hM : M ≤ 5000000) (h : Jc q q2 n o s) (hq : q < s.box.length) : Fsound Try.prog 25 s ([encCell c, encCell d] ++ [.ptr q2 0]) fun s' _ => Jc q q2 (n + 1) (o ++ [d]) s' ∧ Keep q s s' := by
  have hq2 := (List.getElem?_eq_some_iff.1 h.2.1).1
  have hb : ∀ ys, (s.box ++ ys)[q2]? = some (38, [.fn 24 [.ptr q 0]]) := fun y => by rw [List.getElem?_append_left hq2]; exact h.2.1
  refine Fsound.of_run hmix Try.func25 (by kernel_rfl) rfl ⟨Try.ntmps25, by simp⟩ ?_
  simp [encCell, hb]
  have hs : ∀ ys, Jc q q2 n o ⟨s.box ++ ys, s.tok⟩ := fun ys => by
    obtain ⟨⟨K, h1, h2, h3, h4⟩, k2, k3⟩ := h
    exact ⟨⟨K, by rw [List.getElem?_append_left hq]; exact h1, okO_box h2, h3, h4⟩, hb ys, k3⟩
  refine (comp1c_sound d hn hM (hs _) (by simp; omega)).run (by simp) fun s' r hR => ?_
  simp
  exact ⟨hR.1, Keep.trans ⟨by simp, fun p hp _ => by simp [List.getElem?_append_left hp]⟩ hR.2⟩
theorem T27 : tabOf Try.prog 27 = some ⟨.struct #[⟨"Cells", 22, 0, false, "", "", 0⟩], 1, 24, [.slice none 0 0], true⟩ := by kernel_rfl
attribute [local simp] T27
theorem indep_pure (a b : List Cell) (ha : a.length < 1000000) (hb : b.length < 1000000) : Pure Try.prog 8 [slC .ro a, slC .ro b] 0 (.bool (indep a b)) := by
  refine Pure.of_run hmix Try.func8 (by kernel_rfl) rfl ⟨Try.ntmps8, by simp⟩ ?_
  simp
  refine (writes_pure a ha).run rfl (by simp) (by simp) (by simp) ?_
  simp
  refine gR_mk (fun h => ?_) (fun h => ?_) <;> simp only [Bool.not_eq_true', Bool.not_eq_false'] at h <;> simp [h]
  · simp [indep, h]
  · refine (writes_pure b hb).run rfl (by simp) (by simp) (by simp) ?_
    simp
    refine condR_mk (fun h2 => ?_) (fun h2 => ?_) <;> simp only [Bool.not_eq_true', Bool.not_eq_false'] at h2 <;> simp [h2]
    · simp [indep, h2]
    · refine (visit_run (J := Jb 0) (q := 0) (M := a.length + b.length) (f1 := fun _ x => x) (f2 := fun _ x => x) (f3 := fun _ _ _ => false) (o1 := none) (o2 := none) (o3 := some (21, [.ptr 0 0])) ?_ (fun _ _ => rfl) (fun _ _ => rfl) ?_ a b ha hb (Nat.le_refl _) (wrB_bnd h) (wrB_bnd h2) true _ (by simp) (by simp [Jb])).run (by simp) fun s' r hR => ?_
      · intro n x s y hq hx
        unfold Jb at hx ⊢
        rw [List.getElem?_append_left hq]
        exact hx
      · intro n x s c d hn hx hq
        exact ind1_sound c d hx hq
      · obtain ⟨⟨n, _, hn⟩, _⟩ := hR
        unfold Jb at hn
        simp [hn, indep, h, h2]
theorem rest_pure (a b : List Cell) (ha : a.length < 1000000) (hb : b.length < 1000000) : Pure Try.prog 13 [slC .ro a, slC .ro b] 0 (slC .fz (rest a b)) := by
  refine Pure.of_run hmix Try.func13 (by kernel_rfl) rfl ⟨Try.ntmps13, by simp⟩ ?_
  simp
  refine (writes_pure a ha).run rfl (by simp) (by simp) (by simp) ?_
  simp
  refine gR_mk (fun h => ?_) (fun h => ?_) <;> simp only [Bool.not_eq_true', Bool.not_eq_false'] at h <;> simp [h]
  · rw [show rest a b = [] by simp [rest, h]]
    exact conv_nil ..
  · refine (writes_pure b hb).run rfl (by simp) (by simp) (by simp) ?_
    simp
    refine condR_mk (fun h2 => ?_) (fun h2 => ?_) <;> simp only [Bool.not_eq_true', Bool.not_eq_false'] at h2 <;> simp [h2]
    · rw [show rest a b = [] by simp [rest, h2]]
      exact conv_nil ..
    · refine (visit_run (J := Jout 0) (q := 0) (M := 5000000) (f1 := fun c o => o ++ [c]) (f2 := fun _ o => o) (f3 := fun _ _ o => o) (o1 := some (27, [.ptr 0 0])) (o2 := none) (o3 := none) (fun n x s y hq hx => hx.grow y hq) (fun n x s c hn hx hq => rest1_sound c hn (Nat.le_refl _) hx hq) (fun _ _ => rfl) (fun _ _ _ => rfl) a b ha hb (by omega) (wrB_bnd h) (wrB_bnd h2) [] _ (by simp) ⟨none, by simp [slO], rfl, fun _ => rfl, by simp⟩).run (by simp) fun s' r hR => ?_
      obtain ⟨⟨n, _, K, k1, k2, k3, _⟩, _⟩ := hR
      simp [k1]
      rw [show rest a b = vis (fun c o => o ++ [c]) (fun _ o => o) (fun _ _ o => o) a b [] by simp [rest, h, h2]]
      exact conv_slO plainCell k2 36 6 _ k3
theorem comp_pure (a b : List Cell) (ha : a.length < 1000000) (hb : b.length < 1000000) : Pure Try.prog 11 [slC .ro a, slC .ro b] 0 (slC .fz (comp a b)) := by
  refine Pure.of_run hmix Try.func11 (by kernel_rfl) rfl ⟨Try.ntmps11, by simp⟩ ?_
  simp
  refine (writes_pure a ha).run rfl (by simp) (by simp) (by simp) ?_
  simp
  refine gR_mk (fun h => ?_) (fun h => ?_) <;> simp only [Bool.not_eq_true', Bool.not_eq_false'] at h <;> simp [h]
  · rw [show comp a b = [] by simp [comp, h]]
    exact conv_nil ..
  · refine (writes_pure b hb).run rfl (by simp) (by simp) (by simp) ?_
    simp
    refine condR_mk (fun h2 => ?_) (fun h2 => ?_) <;> simp only [Bool.not_eq_true', Bool.not_eq_false'] at h2 <;> simp [h2]
    · rw [show comp a b = [] by simp [comp, h2]]
      exact conv_nil ..
    · refine (visit_run (J := Jc 0 1) (q := 0) (M := 5000000) (f1 := fun c o => o ++ [c]) (f2 := fun c o => o ++ [c]) (f3 := fun _ d o => o ++ [d]) (o1 := some (24, [.ptr 0 0])) (o2 := some (24, [.ptr 0 0])) (o3 := some (25, [.ptr 1 0]))
        (fun n x s y hq hx => ⟨hx.1.grow y hq, by rw [List.getElem?_append_left (List.getElem?_eq_some_iff.1 hx.2.1).1]; exact hx.2.1, hx.2.2⟩) (fun n x s c hn hx hq => comp1c_sound c hn (Nat.le_refl _) hx hq) (fun n x s c hn hx hq => comp1c_sound c hn (Nat.le_refl _) hx hq) (fun n x s c d hn hx hq => comp2c_sound c d hn (Nat.le_refl _) hx hq)
        a b ha hb (by omega) (wrB_bnd h) (wrB_bnd h2) [] _ (by simp) ⟨⟨none, by simp [slO], rfl, fun _ => rfl, by simp⟩, by simp, by simp⟩).run (by simp) fun s' r hR => ?_
      obtain ⟨⟨n, _, ⟨K, k1, k2, k3, _⟩, _⟩, _⟩ := hR
      simp [k1]
      rw [show comp a b = vis (fun c o => o ++ [c]) (fun c o => o ++ [c]) (fun _ d o => o ++ [d]) a b [] by simp [comp, h, h2]]
      exact conv_slO plainCell k2 36 6 _ k3
theorem inverse_pure (a b : List Cell) (ha : a.length < 1000000) (hb : b.length < 1000000) : Pure Try.prog 19 [.agg [slC .ro a], slC .ro b] 0 (slC .fz (inverse a b)) := by
  refine Pure.of_run hmix Try.func19 (by kernel_rfl) rfl ⟨Try.ntmps19, by simp⟩ ?_
  simp
  refine (valid_pure a ha).run rfl (by simp) (by simp) (by simp) ?_
  simp
  refine gR_mk (fun h => ?_) (fun h => ?_) <;> simp only [Bool.not_eq_true', Bool.not_eq_false'] at h <;> simp [h]
  · rw [show inverse a b = [] by simp [inverse, h]]
    exact conv_nil ..
  · refine (writes_pure b hb).run rfl (by simp) (by simp) (by simp) ?_
    simp
    refine condR_mk (fun h2 => ?_) (fun h2 => ?_) <;> simp only [Bool.not_eq_true', Bool.not_eq_false'] at h2 <;> simp [h2]
    · rw [show inverse a b = [] by simp [inverse, h2]]
      exact conv_nil ..
    · refine (visit_run (J := Jout 1) (q := 1) (M := 5000000) (f1 := fun _ o => o) (f2 := fun c o => o ++ [zeroed c]) (f3 := fun c _ o => o ++ [c]) (o1 := none) (o2 := some (31, [.ptr 1 0])) (o3 := some (32, [.ptr 1 0])) (fun n x s y hq hx => hx.grow y hq) (fun _ _ => rfl) (fun n x s c hn hx hq => inv1_sound c hn (Nat.le_refl _) hx hq) (fun n x s c d hn hx hq => inv2_sound c d hn (Nat.le_refl _) hx hq) a b ha hb (by omega) (wrB_bnd (valB_wr h)) (wrB_bnd h2) [] _ (by simp) ⟨none, by simp [slO], rfl, fun _ => rfl, by simp⟩).run (by simp) fun s' r hR => ?_
      obtain ⟨⟨n, _, K, k1, k2, k3, _⟩, _⟩ := hR
      simp [k1]
      rw [show inverse a b = vis (fun _ o => o) (fun c o => o ++ [zeroed c]) (fun c _ o => o ++ [c]) a b [] by simp [inverse, h, h2]]
      exact conv_slO plainCell k2 36 6 _ k3
theorem least_pure (a b : List Cell) (ha : a.length < 1000000) (hb : b.length < 1000000) : Pure Try.prog 20 [.agg [slC .ro a], slC .ro b] 0 (slC .fz (least a b)) := by
  refine Pure.of_run hmix Try.func20 (by kernel_rfl) rfl ⟨Try.ntmps20, by simp⟩ ?_
  simp
  refine (valid_pure a ha).run rfl (by simp) (by simp) (by simp) ?_
  simp
  refine gR_mk (fun h => ?_) (fun h => ?_) <;> simp only [Bool.not_eq_true', Bool.not_eq_false'] at h <;> simp [h]
  · rw [show least a b = [] by simp [least, h]]
    exact conv_nil ..
  · refine (writes_pure b hb).run rfl (by simp) (by simp) (by simp) ?_
    simp
    refine condR_mk (fun h2 => ?_) (fun h2 => ?_) <;> simp only [Bool.not_eq_true', Bool.not_eq_false'] at h2 <;> simp [h2]
    · rw [show least a b = [] by simp [least, h2]]
      exact conv_nil ..
    · refine (visit_run (J := Jout 1) (q := 1) (M := 5000000) (f1 := fun _ o => o) (f2 := fun c o => if zeroV c then o else o ++ [c]) (f3 := fun c d o => if sameV c d then o else o ++ [d]) (o1 := none) (o2 := some (33, [.ptr 1 0])) (o3 := some (34, [.ptr 1 0])) (fun n x s y hq hx => hx.grow y hq) (fun _ _ => rfl) (fun n x s c hn hx hq => least1_sound c hn (Nat.le_refl _) hx hq) (fun n x s c d hn hx hq => least2_sound c d hn (Nat.le_refl _) hx hq) a b ha hb (by omega) (wrB_bnd (valB_wr h)) (wrB_bnd h2) [] _ (by simp) ⟨none, by simp [slO], rfl, fun _ => rfl, by simp⟩).run (by simp) fun s' r hR => ?_
      obtain ⟨⟨n, _, K, k1, k2, k3, _⟩, _⟩ := hR
      simp [k1]
      rw [show least a b = vis (fun _ o => o) (fun c o => if zeroV c then o else o ++ [c]) (fun c d o => if sameV c d then o else o ++ [d]) a b [] by simp [least, h, h2]]
      exact conv_slO plainCell k2 36 6 _ k3
end Go.Proofs.YtfodigfliiemeaaA
