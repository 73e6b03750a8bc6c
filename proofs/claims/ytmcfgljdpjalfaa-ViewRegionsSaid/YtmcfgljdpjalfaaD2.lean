/- Contracts: the state of a draw. -/
import Derived.Test.YtmcfgljdpjalfaaD1
set_option linter.unusedVariables false
set_option linter.unusedSimpArgs false
set_option linter.constructorNameAsVariable false
set_option linter.unusedSectionVars false
namespace Go.Proofs.YtmcfgljdpjalfaaV
open Go.RowKit Go.Proofs
attribute [local simp ↓] run_nil run_seq run_skip run_region run_draw run_cond run_block run_exit run_ret run_b run_l run_k rexit_c rexit_l rexit_k rexit_b rops_nil rplan_nil rops_cons rops_guard rplan_cons rplan_two condR_true condR_false
attribute [local simp] planR_some planR_guard rrest_o rrest_p gS_some gR_tt gR_ff gR_ft gR_tf gR_tup valP_some valP_none valE_some valE_none valS_some opR_move opR_assign opR_pick opR_binOp opR_unOp opR_convert opR_convertl opR_extract opR_field opR_fieldAddr opR_indexAddr opR_index opR_slice opR_makeFunc opR_build opR_load opR_loadl opR_p opR_store opR_alloc opR_box opR_buildSlice opR_makeSlice opR_allocc opR_boxc opR_buildSlicec opR_makeSlicec opR_len opR_append opR_clear opR_call opR_callc opR_makeMap opR_makeMapc opR_mapEntry opR_lookup opR_lookupl opR_mapUpdate opR_insert opR_entryStore
attribute [local simp] evP boxAV allocAV okCells_agg okCells_sl okCells_so okCells_int okCells_bool okCells_str okCells_nilp okCells_nilfn okCells_ptr okCells_fn okCells_ub loadAV loadEl storeAV storeEl partAV partAV0 fieldAV fieldAddrAV indexAddrAV indexAV lenAV sliceAV boundAV fieldAt? elemOf? kindOf look cst updO upd dstOk binAV_int binAV_str binAV_bool binAV_fn binAV_nilfn binAV_agg binAV_sl eqUb binInt binStr isShift shiftInt unAV convAV bytesAV bytesOf clearAV TD.agg RetQ resAV resAVs resAV1 F0 AV.ret AV.retL St.empty fnOf_fn gslot buildAV fillAV placesAV buildSliceAV makeSliceAV appendAV appRow_so appRow_nil listAV_sl listAV_so cutL fillE zeroElem? addRows_nil le_refl leL_refl le_agg le_tup le_int le_bool le_str le_sl leL_nil leL_cons conv0 conv_tk arg_tk res_tk fzn_tk fzn_so fzn_elo fzn_ptr res_so deep_tk tkArg_ro tkArg_fz tkArg_nil tkRes_ro tkRes_nil tkRes_fz conv_so arg_so deepc_so deepa_so at_new at_nil at_box live_at' new_len new_box put_len put_box retL_append retL_take retL_drop retL_set retL_replicate at_fzn fzn_len fzn_mo res_mo arg_mo conv_mo makeMapAV mapAV lookAV keyBits keyBits1 allBits keyOk basicD updL En.body fzn_box
attribute [local simp] encV encA encI encSl encC encSp encM encS encMo eqV10 eqV0 eqA10 eqSp10 eqOp retL_V retL_A retL_I retL_C retL_Sp retL_M retL_Sl_conv retL_Sl_arg retL_Sl_res retL_Sl_fzn retL_Sl_dc retL_Sl_da T_int T_bool T_u8 T_string T_MarkL T_Slots T_StateT T_RegionL T_Alts T_ints T_Region T_Mark T_Value T_Alt T_Slot T_Cells T_ModelT T_Cell T_seqSlot T_mapSpot T_SpotL T_Spot T_yieldSlot
def cutN (old : List AltV) (st : Int) : Nat := (old.takeWhile fun a => decide (a.stamp < st)).length
def hasSt (old : List AltV) (st : Int) : Bool := match old[cutN old st]? with | some a => decide (a.stamp = st) | none => false
def putF (old : List AltV) (id field st : Int) : List AltV := old.take (cutN old st) ++ ⟨st, mvalF id field st⟩ :: old.drop (cutN old st)
/-- A state with a further alternative of a draw. -/
def markF (s : List SlotV) (m : MarkV) : List SlotV :=
  if hasSt (altsF s (idF m.id 3) (fieldF m.field)) (idF m.stamp 4) = true then s else setF s (idF m.id 3) (fieldF m.field) (putF (altsF s (idF m.id 3) (fieldF m.field)) (idF m.id 3) (fieldF m.field) (idF m.stamp 4))
def marksF (l : List MarkV) (i : Nat) : List SlotV := (l.take i).foldl markF []
def stateF (l : List MarkV) : List SlotV := marksF l 40
/-- A state that may be: in order, no slot without alternatives, not too long. -/
def GoodS (n : Nat) (s : List SlotV) : Prop := SortedS s ∧ (∀ x ∈ s, x.alts ≠ [] ∧ x.alts.length ≤ n) ∧ s.length ≤ n
theorem cutN_le (old : List AltV) (st : Int) : cutN old st ≤ old.length := (List.takeWhile_prefix _).length_le
theorem altsF_len {n : Nat} {s : List SlotV} (h : GoodS n s) (id field : Int) : (altsF s id field).length ≤ n := by
  unfold altsF
  split
  · rename_i x hx
    split
    · exact (h.2.1 x (List.mem_of_getElem? hx)).2
    · simp
  · simp
theorem putF_len (old : List AltV) (id field st : Int) : (putF old id field st).length = old.length + 1 := by
  have := cutN_le old st
  simp [putF]
  omega
theorem sortedS_cons {x : SlotV} {s : List SlotV} : SortedS (x :: s) ↔ (∀ y ∈ s, aheadB x.id x.field y.id y.field = true) ∧ SortedS s := List.pairwise_cons
theorem ahead_tri (a b c d : Int) : aheadB a b c d = true ∨ aheadB c d a b = true ∨ (a = c ∧ b = d) := by
  simp only [aheadB, Bool.or_eq_true, Bool.and_eq_true, decide_eq_true_eq]
  omega
theorem setF_nil (id field : Int) (l : List AltV) (hl : l ≠ []) : setF [] id field l = [⟨id, field, l⟩] := by
  have : l.length ≠ 0 := fun h => hl (List.eq_nil_of_length_eq_zero h)
  simp [setF, placeN, hitB, this]
theorem setF_cons (x : SlotV) (s : List SlotV) (id field : Int) (l : List AltV) (hl : l ≠ []) : setF (x :: s) id field l =
    if aheadB x.id x.field id field = true then x :: setF s id field l else if x.id = id ∧ x.field = field then ⟨id, field, l⟩ :: s else ⟨id, field, l⟩ :: x :: s := by
  have h0 : l.length ≠ 0 := fun h => hl (List.eq_nil_of_length_eq_zero h)
  by_cases h : aheadB x.id x.field id field = true
  · have e : placeN (x :: s) id field = placeN s id field + 1 := by simp [placeN, List.takeWhile_cons, h]
    have e2 : hitB (x :: s) (placeN s id field + 1) id field = hitB s (placeN s id field) id field := by simp [hitB]
    rw [if_pos h]
    simp only [setF, e, e2, List.take_succ_cons, List.cons_append]
    have ed : ∀ b : Bool, (x :: s).drop (if b = true then placeN s id field + 1 + 1 else placeN s id field + 1) = s.drop (if b = true then placeN s id field + 1 else placeN s id field) := fun b => by cases b <;> rfl
    rw [ed]
  · have e : placeN (x :: s) id field = 0 := by simp [placeN, List.takeWhile_cons, h]
    rw [if_neg h]
    simp only [setF, e, hitB, List.getElem?_cons_zero, List.take_zero, List.nil_append, if_neg h0]
    by_cases h2 : x.id = id ∧ x.field = field
    · simp [h2]
    · rw [if_neg h2, if_neg (by simpa using h2)]
      simp
theorem setF_mem {s : List SlotV} {id field : Int} {l : List AltV} {y : SlotV} (h : y ∈ setF s id field l) : y ∈ s ∨ (l ≠ [] ∧ y = ⟨id, field, l⟩) := by
  unfold setF at h
  simp only [List.mem_append] at h
  rcases h with (h | h) | h
  · exact .inl (List.mem_of_mem_take h)
  · split at h
    · cases h
    · rename_i h0
      exact .inr ⟨fun e => h0 (by rw [e]; rfl), by simpa using h⟩
  · exact .inl (List.mem_of_mem_drop h)
theorem setF_sorted : ∀ {s : List SlotV} (id field : Int) {l : List AltV} (_ : l ≠ []), SortedS s → SortedS (setF s id field l)
  | [], id, field, l, hl, _ => by rw [setF_nil _ _ _ hl]; simp [SortedS]
  | x :: s, id, field, l, hl, hs => by
    rw [setF_cons _ _ _ _ _ hl]
    obtain ⟨h1, h2⟩ := sortedS_cons.1 hs
    split
    · rename_i h
      refine sortedS_cons.2 ⟨fun y hy => ?_, setF_sorted id field hl h2⟩
      rcases setF_mem hy with hy | ⟨_, rfl⟩
      · exact h1 y hy
      · exact h
    · rename_i h
      split
      · rename_i e
        obtain ⟨rfl, rfl⟩ := e
        exact sortedS_cons.2 ⟨h1, h2⟩
      · rename_i e
        have hx : aheadB id field x.id x.field = true := by
          rcases ahead_tri x.id x.field id field with h' | h' | h'
          · exact absurd h' h
          · exact h'
          · exact absurd h' e
        refine sortedS_cons.2 ⟨fun y hy => ?_, hs⟩
        rcases List.mem_cons.1 hy with rfl | hy
        · exact hx
        · exact aheadB_trans hx (h1 y hy)
theorem markF_good {n : Nat} {s : List SlotV} (m : MarkV) (h : GoodS n s) : GoodS (n + 1) (markF s m) := by
  unfold markF
  split
  · exact ⟨h.1, fun x hx => ⟨(h.2.1 x hx).1, by have := (h.2.1 x hx).2; omega⟩, by have := h.2.2; omega⟩
  · have hne : putF (altsF s (idF m.id 3) (fieldF m.field)) (idF m.id 3) (fieldF m.field) (idF m.stamp 4) ≠ [] := fun e => by have := putF_len (altsF s (idF m.id 3) (fieldF m.field)) (idF m.id 3) (fieldF m.field) (idF m.stamp 4); rw [e] at this; simp at this
    refine ⟨setF_sorted _ _ hne h.1, fun x hx => ?_, ?_⟩
    · rcases setF_mem hx with hx | ⟨_, rfl⟩
      · exact ⟨(h.2.1 x hx).1, by have := (h.2.1 x hx).2; omega⟩
      · refine ⟨hne, ?_⟩
        simp only
        rw [putF_len]
        have := altsF_len h (idF m.id 3) (fieldF m.field)
        omega
    · have := setF_len s (idF m.id 3) (fieldF m.field) (putF (altsF s (idF m.id 3) (fieldF m.field)) (idF m.id 3) (fieldF m.field) (idF m.stamp 4))
      have := h.2.2
      omega
theorem cutN_lt : ∀ (old : List AltV) (st : Int) (i : Nat) (h : i < old.length), i < cutN old st → old[i].stamp < st
  | [], st, i, h, _ => by simp at h
  | x :: s, st, i, h, hi => by
    unfold cutN at hi
    rw [List.takeWhile_cons] at hi
    split at hi
    · rename_i hx
      cases i with
      | zero => simpa using hx
      | succ i => simpa using cutN_lt s st i (by simpa using h) (by simpa [cutN] using hi)
    · simp at hi
theorem cutN_at : ∀ (old : List AltV) (st : Int) (h : cutN old st < old.length), ¬ old[cutN old st].stamp < st
  | [], st, h => by simp at h
  | x :: s, st, h => by
    by_cases hx : x.stamp < st
    · have e : cutN (x :: s) st = cutN s st + 1 := by simp [cutN, List.takeWhile_cons, hx]
      have h' : cutN s st < s.length := by rw [e] at h; simpa using h
      have := cutN_at s st h'
      simp only [e, List.getElem_cons_succ]
      exact this
    · have e : cutN (x :: s) st = 0 := by simp [cutN, List.takeWhile_cons, hx]
      simp only [e, List.getElem_cons_zero]
      exact hx
theorem marksF_suc (l : List MarkV) (i : Nat) (h : i < l.length) : marksF l (i + 1) = markF (marksF l i) l[i] := by
  simp only [marksF, List.take_succ_eq_append_getElem h, List.foldl_append]
  rfl
theorem marksF_good (l : List MarkV) : ∀ i, i ≤ l.length → GoodS i (marksF l i)
  | 0, _ => ⟨by simp [marksF, SortedS], by simp [marksF], by simp [marksF]⟩
  | i + 1, h => by
    rw [marksF_suc l i (by omega)]
    exact markF_good _ (marksF_good l i (by omega))
theorem stateF_good (l : List MarkV) : GoodS 40 (stateF l) := by
  rcases Nat.lt_or_ge l.length 40 with h | h
  · have e : stateF l = marksF l l.length := by unfold stateF marksF; rw [List.take_of_length_le (by omega), List.take_length]
    have := marksF_good l l.length (Nat.le_refl _)
    rw [e]
    exact ⟨this.1, fun x hx => ⟨(this.2.1 x hx).1, by have := (this.2.1 x hx).2; omega⟩, by have := this.2.2; omega⟩
  · exact marksF_good l 40 h
/-- The state's loop: i marks are in. -/
def StateI (l : List MarkV) (i : Nat) (F : Fr) (st : St) : Prop :=
  i ≤ l.length ∧ i ≤ 40 ∧ F 0 = .sl 39 3 .ro (l.map encM) ∧ F 2 = .ptr 0 0 ∧ F 3 = .ptr 1 0 ∧ F 4 = .int .i64 i ∧ st.box = [(26, [.sl 0 0 .nil []]), (26, [.sl 49 3 .ro ((marksF l i).map encSl)])]
theorem State_pure (l : List MarkV) : Pure Try.prog 5 [.sl 39 3 .ro (l.map encM)] [] (encS (stateF l)) := by
  refine Pure.of_run hmix Try.func5 (by kernel_rfl) rfl ⟨Try.ntmps5, by simp⟩ ?_
  simp
  refine run_loop (fun F st => ∃ i, StateI l i F st) (fun F _ => l.length - (F 4).num) (.by (Weak.leBox (b := 1) (cs' := [.sl 49 3 .ro []]) (by simp; exact ⟨rfl, rfl⟩) (by simp)) (.here ⟨0, by omega, by omega, by simp, by simp, by simp, by simp, by simp [marksF]⟩)) ?_
  rintro F st ⟨i, hi, h40, h0, h2, h3, h4, hb⟩
  simp [h0, h2, h3, h4, hb]
  rcases Nat.lt_or_ge i l.length with hil | hil
  · rcases Nat.lt_or_ge i 40 with hi40 | hi40
    · have h40' : (i : Int) < 40 := by omega
      simp [-run_block, -run_seq, h0, h2, h3, h4, hb, hil, h40']
      rw [run_seq]
      have hg := marksF_good l i hi
      have hws := wrap_suc i (by omega)
      refine run_cut (fun F st => F 0 = .sl 39 3 .ro (l.map encM) ∧ F 2 = .ptr 0 0 ∧ F 3 = .ptr 1 0 ∧ F 4 = .int .i64 i ∧ st.box = [(26, [.sl 0 0 .nil []]), (26, [.sl 49 3 .ro ((marksF l (i + 1)).map encSl)])]) ?_ ?_
      · rw [run_block, run_seq]
        simp [-run_seq, h0, h2, h3, h4, hb, hil]
        refine RDraw_mk [] (.go 0 .p (.go 1 .p (.go 2 .p (.go 3 .p (.go 6 .p (.go 7 .p (.go 8 .p (.go 9 .p (.go 12 .p (.go 13 .p (.go 14 .p (.go 15 .p (.go 4 .l (.go 10 .l (.go 16 .l (.go 5 .c (.go 11 .c (.go 17 .c (.go 18 .p (.go 19 .p (.go 20 .p .nil))))))))))))))))))))) (by kernel_rfl) ?_
        simp [-run_seq, h0, h2, h3, h4, hb, hil]
        refine callW_of (by simp) ?_
        simp [h0, h2, h3, h4, hb, hil]
        refine (Id_pure l[i].id 3 (by omega)).run true (by simp [h0, h2, h3, h4, hb, hil]) ?_
        simp [h0, h2, h3, h4, hb, hil]
        refine callW_of (by simp) ?_
        simp [h0, h2, h3, h4, hb, hil]
        refine (fields_pure l[i].field).run true (by simp [h0, h2, h3, h4, hb, hil]) ?_
        simp [h0, h2, h3, h4, hb, hil]
        refine callW_of (by simp) ?_
        simp [h0, h2, h3, h4, hb, hil]
        refine (Id_pure l[i].stamp 4 (by omega)).run true (by simp [h0, h2, h3, h4, hb, hil]) ?_
        simp [h0, h2, h3, h4, hb, hil]
        obtain ⟨id, hid⟩ : ∃ id, id = idF l[i].id 3 := ⟨_, rfl⟩
        obtain ⟨field, hfd⟩ : ∃ field, field = fieldF l[i].field := ⟨_, rfl⟩
        obtain ⟨stamp, hsp⟩ : ∃ stamp, stamp = idF l[i].stamp 4 := ⟨_, rfl⟩
        obtain ⟨s0, hs0⟩ : ∃ s0, s0 = marksF l i := ⟨_, rfl⟩
        have hnext : marksF l (i + 1) = markF s0 l[i] := by rw [marksF_suc l i hil, hs0]
        have hmI : mvalI id field stamp := ⟨by rw [hid]; exact (idF_in _ 3 (by omega) (by omega)).1, by rw [hid]; exact (idF_in _ 3 (by omega) (by omega)).2, by rw [hfd]; exact (fieldF_in _).1, by rw [hfd]; exact (fieldF_in _).2, by rw [hsp]; exact (idF_in _ 4 (by omega) (by omega)).1, by rw [hsp]; exact (idF_in _ 4 (by omega) (by omega)).2⟩
        rw [hnext]
        unfold markF
        rw [← hid, ← hfd, ← hsp]
        rw [← hs0] at hb hg ⊢
        clear hnext
        refine callW_of (by simp) ?_
        simp [h0, h2, h3, h4, hb, hil]
        refine (altsOf_pure s0 id field hg.1 (by have := hg.2.2; omega)).run true (by simp) ?_
        simp [-run_seq, h0, h2, h3, h4, hb, hil]
        have hol := altsF_len hg id field
        obtain ⟨old, hold⟩ : ∃ old, old = altsF s0 id field := ⟨_, rfl⟩
        rw [← hold] at hol ⊢
        rw [run_seq]
        simp [-run_seq, h0, h2, h3, h4, hb, hil]
        rw [run_seq]
        refine run_cut (fun F st => F 0 = .sl 39 3 .ro (l.map encM) ∧ F 2 = .ptr 0 0 ∧ F 3 = .ptr 1 0 ∧ F 4 = .int .i64 i ∧ F 5 = .int .i64 id ∧ F 6 = .int .i64 field ∧ F 7 = .int .i64 stamp ∧ F 8 = .sl 45 5 .ro (old.map encA) ∧ F 9 = .int .i64 (cutN old stamp) ∧ st.box = [(26, [.sl 0 0 .nil []]), (26, [.sl 49 3 .ro (s0.map encSl)])]) ?_ ?_
        · simp [h0, h2, h3, h4, hb, hil]
          have hcl := cutN_le old stamp
          refine run_loop (fun F st => ∃ k : Nat, k ≤ cutN old stamp ∧ F 0 = .sl 39 3 .ro (l.map encM) ∧ F 2 = .ptr 0 0 ∧ F 3 = .ptr 1 0 ∧ F 4 = .int .i64 i ∧ F 5 = .int .i64 id ∧ F 6 = .int .i64 field ∧ F 7 = .int .i64 stamp ∧ F 8 = .sl 45 5 .ro (old.map encA) ∧ F 9 = .int .i64 k ∧ st.box = [(26, [.sl 0 0 .nil []]), (26, [.sl 49 3 .ro (s0.map encSl)])]) (fun F _ => old.length - (F 9).num) (.here ⟨0, by simp [h0, h2, h3, h4, hb]⟩) ?_
          rintro F st ⟨k, hk, h0, h2, h3, h4, h5, h6, h7, h8, h9, hb⟩
          simp [h0, h2, h3, h4, h5, h6, h7, h8, h9, hb]
          rcases Nat.lt_or_ge k old.length with g | g
          · by_cases g1 : old[k].stamp < stamp
            · have hw := wrap_suc k (by omega)
              have hlt : k < cutN old stamp := by
                rcases Nat.lt_or_ge k (cutN old stamp) with h | h
                · exact h
                · have : k = cutN old stamp := by omega
                  subst this
                  exact absurd g1 (cutN_at old stamp g)
              simp [g, g1, hw, h0, h2, h3, h4, h5, h6, h7, h8, h9, hb]
              refine .here ⟨⟨k + 1, hlt, by simp [h0, h2, h3, h4, h5, h6, h7, h8, hb]⟩, ?_⟩
              simp [AV.num]; omega
            · have hge : k = cutN old stamp := by
                rcases Nat.lt_or_ge k (cutN old stamp) with h | h
                · exact absurd (cutN_lt old stamp k g h) g1
                · omega
              subst hge
              simp [g, g1, h0, h2, h3, h4, h5, h6, h7, h8, h9, hb]
          · have hge : k = cutN old stamp := by omega
            have g' : ¬ k < old.length := by omega
            subst hge
            simp [g', h0, h2, h3, h4, h5, h6, h7, h8, h9, hb]
        · rintro F st ⟨h0, h2, h3, h4, h5, h6, h7, h8, h9, hb⟩
          have hcl := cutN_le old stamp
          obtain ⟨c, hc⟩ : ∃ c, c = cutN old stamp := ⟨_, rfl⟩
          have hput : putF old id field stamp = old.take c ++ ⟨stamp, mvalF id field stamp⟩ :: old.drop c := by rw [hc]; rfl
          have hhas : hasSt old stamp = match old[c]? with | some a => decide (a.stamp = stamp) | none => false := by rw [hc]; rfl
          rw [← hc] at hcl h9
          rw [run_seq]
          refine run_cut (fun F st => hasSt old stamp = false ∧ F 0 = .sl 39 3 .ro (l.map encM) ∧ F 2 = .ptr 0 0 ∧ F 3 = .ptr 1 0 ∧ F 4 = .int .i64 i ∧ F 5 = .int .i64 id ∧ F 6 = .int .i64 field ∧ F 7 = .int .i64 stamp ∧ F 8 = .sl 45 5 .ro (old.map encA) ∧ F 9 = .int .i64 c ∧ st.box = [(26, [.sl 0 0 .nil []]), (26, [.sl 49 3 .ro (s0.map encSl)])]) ?_ ?_
          · rcases Nat.lt_or_ge c old.length with g | g
            · rw [List.getElem?_eq_getElem g] at hhas
              by_cases e : old[c].stamp = stamp
              · have hh : hasSt old stamp = true := by rw [hhas]; simpa using e
                simp [g, e, hh, h0, h2, h3, h4, h5, h6, h7, h8, h9, hb]
              · have b : (old[c].stamp == stamp) = false := by simp [e]
                have hh : hasSt old stamp = false := by rw [hhas]; simpa using e
                simp [g, e, b, hh, h0, h2, h3, h4, h5, h6, h7, h8, h9, hb]
            · have g' : ¬ c < old.length := by omega
              rw [List.getElem?_eq_none g] at hhas
              simp [g', hhas, h0, h2, h3, h4, h5, h6, h7, h8, h9, hb]
          · rintro F st ⟨hh, h0, h2, h3, h4, h5, h6, h7, h8, h9, hb⟩
            rw [hh]
            simp only [Bool.false_eq_true, if_false]
            simp [h0, h2, h3, h4, h5, h6, h7, h8, h9, hb, hcl]
            rw [if_pos (by omega)]
            simp [h0, h2, h3, h4, h5, h6, h7, h8, h9, hb, hcl]
            have q1 : ¬ st.row.length + 1 = st.row.length + 2 := by omega
            refine callW_of (by simp) ?_
            simp [h0, h2, h3, h4, h5, h6, h7, h8, h9, hb, hcl, q1]
            refine (mValue_pure id field stamp hmI).run true (by simp [h0, h2, h3, h4, h5, h6, h7, h8, h9, hb, hcl, q1]) ?_
            simp [h0, h2, h3, h4, h5, h6, h7, h8, h9, hb, hcl, q1]
            rw [if_pos (by omega)]
            simp [h0, h2, h3, h4, h5, h6, h7, h8, h9, hb, hcl, q1]
            refine RDraw_mk [0, 7, 9] (.go 1 .p (.go 2 .p (.go 3 .p (.go 4 .p (.go 5 .p (.go 6 .p (.two 0 .x (.go 7 .x (.go 8 .c (.go 9 .x .nil))) 7 .x (.go 0 .x (.go 8 .c (.go 9 .x .nil)))))))))) (by kernel_rfl) ?_
            have hX : List.take c (List.map encA old) ++ AV.agg [.int .i64 stamp, .int .i64 (mvalF id field stamp).n, .bool (mvalF id field stamp).flag, .str (mvalF id field stamp).text, .int .i64 (mvalF id field stamp).ref] :: List.drop c (List.take old.length (List.map encA old)) = (putF old id field stamp).map encA := by
              rw [hput, List.take_of_length_le (by simp : (List.map encA old).length ≤ old.length)]
              simp
            have hXl : c + 1 + (old.length - c) = (putF old id field stamp).length := by rw [putF_len]; omega
            simp [h0, h2, h3, h4, h5, h6, h7, h8, h9, hb, hcl, q1]
            refine ⟨?_, ?_⟩
            all_goals
              rw [if_pos (by omega), hX, hXl]
              simp [-encA, h0, h2, h3, h4, h5, h6, h7, h8, h9, hb, hcl, q1]
              refine callW_by (Weak.freeze (n := st.row.length + 1 + 1 + 1 + 1) (p := (45, 5, (putF old id field stamp).map encA)) (by simp) .ro (.inl rfl)) (callW_here (by simp) ?_)
              simp [-encA, h0, h2, h3, h4, h5, h6, h7, h8, h9, hb, hcl, q1]
              refine (Set_pure s0 id field (putF old id field stamp) hg.1 (by have := hg.2.2; omega)).run true (by simp [-encA]) ?_
              simp [-encA, h0, h2, h3, h4, h5, h6, h7, h8, h9, hb, hcl, q1]
      · rintro F st ⟨h0, h2, h3, h4, hb⟩
        simp [h0, h2, h3, h4, hb, hws]
        refine .here ⟨⟨i + 1, by omega, by omega, h0, h2, h3, rfl, hb⟩, ?_⟩
        simp [AV.num]; omega
    · have e40 : i = 40 := by omega
      have h40' : ¬ (i : Int) < 40 := by omega
      have e : marksF l i = stateF l := by rw [e40]; rfl
      simp [h0, h2, h3, h4, hb, hil, h40', e]
  · have hil' : ¬ i < l.length := by omega
    have e : marksF l i = stateF l := by unfold stateF marksF; rw [List.take_of_length_le hil, List.take_of_length_le (by omega)]
    simp [h0, h2, h3, h4, hb, hil', e]
end Go.Proofs.YtmcfgljdpjalfaaV
