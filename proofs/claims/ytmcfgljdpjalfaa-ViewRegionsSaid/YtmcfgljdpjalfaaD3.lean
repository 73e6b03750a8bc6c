/- Contracts: the model of a state. -/
import Derived.Test.YtmcfgljdpjalfaaD2
set_option linter.unusedVariables false
set_option linter.unusedSimpArgs false
set_option linter.constructorNameAsVariable false
set_option linter.unusedSectionVars false
namespace Go.Proofs.YtmcfgljdpjalfaaV
open Go.RowKit Go.Proofs
attribute [local simp ↓] run_nil run_seq run_skip run_region run_draw run_cond run_block run_exit run_ret run_b run_l run_k rexit_c rexit_l rexit_k rexit_b rops_nil rplan_nil rops_cons rops_guard rplan_cons rplan_two condR_true condR_false
attribute [local simp] planR_some planR_guard rrest_o rrest_p gS_some gR_tt gR_ff gR_ft gR_tf gR_tup valP_some valP_none valE_some valE_none valS_some opR_move opR_assign opR_pick opR_binOp opR_unOp opR_convert opR_convertl opR_extract opR_field opR_fieldAddr opR_indexAddr opR_index opR_slice opR_makeFunc opR_build opR_load opR_loadl opR_p opR_store opR_alloc opR_box opR_buildSlice opR_makeSlice opR_allocc opR_boxc opR_buildSlicec opR_makeSlicec opR_len opR_append opR_clear opR_call opR_callc opR_makeMap opR_makeMapc opR_mapEntry opR_lookup opR_lookupl opR_mapUpdate opR_insert opR_entryStore
attribute [local simp] evP boxAV allocAV okCells_agg okCells_sl okCells_so okCells_int okCells_bool okCells_str okCells_nilp okCells_nilfn okCells_ptr okCells_fn okCells_ub loadAV loadEl storeAV storeEl partAV partAV0 fieldAV fieldAddrAV indexAddrAV indexAV lenAV sliceAV boundAV fieldAt? elemOf? kindOf look cst updO upd dstOk binAV_int binAV_str binAV_bool binAV_fn binAV_nilfn binAV_agg binAV_sl eqUb binInt binStr isShift shiftInt unAV convAV bytesAV bytesOf clearAV TD.agg RetQ resAV resAVs resAV1 F0 AV.ret AV.retL St.empty fnOf_fn gslot buildAV fillAV placesAV buildSliceAV makeSliceAV appendAV appRow_so appRow_nil listAV_sl listAV_so cutL fillE zeroElem? addRows_nil le_refl leL_refl le_agg le_tup le_int le_bool le_str le_sl leL_nil leL_cons conv0 conv_tk arg_tk res_tk fzn_tk fzn_so fzn_elo fzn_ptr res_so deep_tk tkArg_ro tkArg_fz tkArg_nil tkRes_ro tkRes_nil tkRes_fz conv_so arg_so deepc_so deepa_so at_new at_nil at_box live_at' new_len new_box put_len put_box retL_append retL_take retL_drop retL_set retL_replicate at_fzn fzn_len fzn_mo res_mo arg_mo conv_mo makeMapAV mapAV lookAV keyBits keyBits1 allBits keyOk basicD updL En.body fzn_box
attribute [local simp] encV encA encI encSl encC encSp encM encS encMo eqV10 eqV0 eqA10 eqSp10 eqOp retL_V retL_A retL_I retL_C retL_Sp retL_M retL_Sl_conv retL_Sl_arg retL_Sl_res retL_Sl_fzn retL_Sl_dc retL_Sl_da T_int T_bool T_u8 T_string T_MarkL T_Slots T_StateT T_RegionL T_Alts T_ints T_Region T_Mark T_Value T_Alt T_Slot T_Cells T_ModelT T_Cell T_seqSlot T_mapSpot T_SpotL T_Spot T_yieldSlot
def nonE (x : SlotV) : Bool := decide (0 < x.alts.length)
/-- The slots that have alternatives, as the loop over them is handed them. -/
def slotsF (s : List SlotV) : List (List AV) := (s.filter nonE).map fun x => [encSl x]
theorem filter_get {α : Type} (p : α → Bool) : ∀ (l : List α) (k : Nat) (h : k < l.length), p l[k] = true → (l.filter p)[((l.take k).filter p).length]? = some l[k]
  | [], k, h, _ => by simp at h
  | x :: l, 0, h, hp => by simp at hp; simp [hp]
  | x :: l, k + 1, h, hp => by
    have ih := filter_get p l k (by simpa using h) (by simpa using hp)
    simp only [List.take_succ_cons, List.getElem_cons_succ]
    by_cases hx : p x = true
    · simp only [List.filter_cons_of_pos hx, List.length_cons, List.getElem?_cons_succ]
      exact ih
    · simp only [List.filter_cons_of_neg hx]
      exact ih
theorem filter_suc {α : Type} (p : α → Bool) (l : List α) (k : Nat) (h : k < l.length) : ((l.take (k + 1)).filter p).length = ((l.take k).filter p).length + if p l[k] = true then 1 else 0 := by
  rw [List.take_succ_eq_append_getElem h, List.filter_append, List.length_append]
  congr 1
  by_cases hp : p l[k] = true
  · simp [hp]
  · simp [hp]
def SlotsI (s0 : List SlotV) (b l : Nat) (I : Nat → St → Prop) (F : Fr) (s : St) : Prop :=
  ∃ k : Nat, k ≤ s0.length ∧ F 0 = .yld l ∧ F 1 = .ptr b 0 ∧ F 6 = .sl 49 3 .ro (s0.map encSl) ∧ F 7 = .int .i64 s0.length ∧ F 8 = .int .i64 k ∧ I ((s0.take k).filter nonE).length s
theorem slots1_iter (s0 : List SlotV) (hl : s0.length < 1000000000) (b : Nat) (I : Nat → St → Prop) (hC : ∀ i s, I i s → s.box[b]? = some (26, [.sl 49 3 .ro (s0.map encSl)])) (hG : ∀ i s y, I i s → I i ⟨s.box ++ [y], s.row⟩) :
    IterOk Try.prog 29 [.ptr b 0] (slotsF s0) I := by
  refine IterOk.of_run hmix Try.func29 (by kernel_rfl) rfl ⟨Try.ntmps29, by simp⟩ fun l s h0 => ?_
  have hb := hC _ _ h0
  simp [hb]
  refine run_loop (SlotsI s0 b l I) (fun F _ => s0.length - (F 8).num) (.here ⟨0, by omega, by simp, by simp, by simp, by simp, by simp, h0⟩) ?_
  rintro F s ⟨k, hk, f0, f1, f6, f7, f8, hI⟩
  simp [f0, f1, f6, f7, f8]
  refine condR_mk (fun h => ?_) (fun h => ?_) <;> simp at h <;> simp [f0, f1, f6, f7, f8]
  · have hw := wrap_suc k (by omega)
    simp [h, f0, f1, f6, f7, f8]
    by_cases hp : 0 < s0[k].alts.length
    · have hp' : nonE s0[k] = true := by simp [nonE, hp]
      simp [h, hp, f0, f1, f6, f7, f8]
      have hI' := hG _ _ (49, [.int .i64 s0[k].id, .int .i64 s0[k].field, .sl 45 5 .ro (s0[k].alts.map encA)]) hI
      have hget : (slotsF s0)[((s0.take k).filter nonE).length]? = some [encSl s0[k]] := by
        unfold slotsF
        rw [List.getElem?_map, filter_get nonE s0 k h hp']
        rfl
      refine callW_yld (l := l) (R := fun s' r => r = .bool true ∧ I (((s0.take k).filter nonE).length + 1) s') (by simp) (by simp [f0]) ⟨rfl, _, by simpa [encSl] using hget, hI', fun s' h => ⟨rfl, h⟩⟩ ?_
      rintro s' y ⟨rfl, hI2⟩
      simp [h, hp, f0, f1, f6, f7, f8, hw]
      refine .here ⟨⟨k + 1, by omega, by simp [f0], by simp [f1], by simp [f6], by simp [f7], by simp [hw], ?_⟩, ?_⟩
      · rw [filter_suc nonE s0 k h, if_pos hp']
        exact hI2
      · simp [AV.num, hw]; omega
    · have hp' : nonE s0[k] = false := by unfold nonE; exact decide_eq_false hp
      have e : s0[k].alts.length = 0 := by omega
      have hI' := hG _ _ (49, [.int .i64 s0[k].id, .int .i64 s0[k].field, .sl 45 5 .ro (s0[k].alts.map encA)]) hI
      simp [h, hp, e, f0, f1, f6, f7, f8, hw]
      refine .here ⟨⟨k + 1, by omega, by simp [f0], by simp [f1], by simp [f6], by simp [f7], by simp [hw], ?_⟩, ?_⟩
      · rw [filter_suc nonE s0 k h, hp']
        exact hI'
      · simp [AV.num, hw]; omega
  · have : k = s0.length := by omega
    subst this
    rw [List.take_length] at hI
    have e : (slotsF s0).length = (s0.filter nonE).length := by simp [slotsF]
    simp [f0, f1, f6, f7, f8, e, hI]
theorem slots_sound (s0 : List SlotV) {s : St} : Fsound Try.prog 16 s [encS s0] fun s' r => s' = ⟨s.box ++ [(26, [.sl 49 3 .ro (s0.map encSl)])], s.row⟩ ∧ r = .fn 29 [.ptr s.box.length 0] := by
  refine Fsound.of_run hmix Try.func16 (by kernel_rfl) rfl ⟨Try.ntmps16, by simp⟩ ?_
  simp
/-- What is read of a slot. -/
def readF (x : SlotV) : Option CellV := match x.alts with | [] => none | a :: _ => if a.v = zeroVal then none else some ⟨x.id, x.field, a.v⟩
/-- The model that is read of a state. -/
def modelF (s : List SlotV) : List CellV := s.filterMap readF
theorem modelF_suc (s : List SlotV) (i : Nat) (h : i < s.length) : modelF (s.take (i + 1)) = modelF (s.take i) ++ (readF s[i]).toList := by
  unfold modelF
  rw [List.take_succ_eq_append_getElem h, List.filterMap_append]
  congr 1
theorem modelF_len (s : List SlotV) : (modelF s).length ≤ s.length := List.length_filterMap_le _ _
theorem readF_pos {x : SlotV} (h : 0 < x.alts.length) : readF x = if x.alts[0].v = zeroVal then none else some ⟨x.id, x.field, x.alts[0].v⟩ := by
  cases x with
  | mk id field alts =>
    cases alts with
    | nil => simp at h
    | cons a r => rfl
theorem readF_nil {x : SlotV} (h : ¬ 0 < x.alts.length) : readF x = none := by
  cases x with
  | mk id field alts =>
    cases alts with
    | nil => rfl
    | cons a r => simp at h
def RMI (s0 : List SlotV) (i : Nat) (F : Fr) (s : St) : Prop :=
  i ≤ s0.length ∧ F 1 = .ptr 0 0 ∧ F 2 = .ptr 1 0 ∧ F 3 = .ptr 2 0 ∧ F 4 = .int .i64 i ∧ ∃ K rest, s.box = (26, [.sl 49 3 .ro (s0.map encSl)]) :: (52, [.sl 0 0 .nil []]) :: (52, [.so K 0 (modelF (s0.take i)).length]) :: rest ∧ s.at K = some (55, 6, (modelF (s0.take i)).map encC)
theorem rModel_pure (s0 : List SlotV) (hl : s0.length < 1000000000) (hne : ∀ x ∈ s0, 0 < x.alts.length) : Pure Try.prog 24 [encS s0] [] (.agg [.sl 55 6 .fz ((modelF s0).map encC)]) := by
  refine Pure.of_run hmix Try.func24 (by kernel_rfl) rfl ⟨Try.ntmps24, by simp⟩ ?_
  simp
  refine run_loop (fun F s => ∃ i, RMI s0 i F s) (fun F _ => s0.length - (F 4).num) (.by (Weak.adoptBox (b := 2) (j := 0) (by simp; exact ⟨rfl, rfl⟩) (by simp; exact ⟨rfl, rfl, rfl⟩) 55 6 (by omega)) (.here ⟨0, by omega, by simp, by simp, by simp, by simp, 0, [], by simp [modelF], by simp [modelF]; rfl⟩)) ?_
  rintro F s ⟨i, hi, h1, h2, h3, h4, K, rest, hb, hK⟩
  have hKl := at_lt hK
  simp [-run_block, h1, h2, h3, h4, hb]
  refine condR_mk (fun h => ?_) (fun h => ?_) <;> simp at h <;> simp [-run_block, h1, h2, h3, h4, hb]
  · have hw := wrap_suc i (by omega)
    have hp := hne _ (List.getElem_mem h)
    have hs := modelF_suc s0 i h
    rw [readF_pos hp] at hs
    obtain ⟨o, ho⟩ : ∃ o, o = modelF (s0.take i) := ⟨_, rfl⟩
    rw [← ho] at hs hK hb
    have hol : o.length ≤ i := by have := modelF_len (s0.take i); rw [← ho] at this; simp at this; omega
    refine run_cut (fun F s => F 1 = .ptr 0 0 ∧ F 2 = .ptr 1 0 ∧ F 3 = .ptr 2 0 ∧ F 4 = .int .i64 i ∧ ∃ K rest, s.box = (26, [.sl 49 3 .ro (s0.map encSl)]) :: (52, [.sl 0 0 .nil []]) :: (52, [.so K 0 (modelF (s0.take (i + 1))).length]) :: rest ∧ s.at K = some (55, 6, (modelF (s0.take (i + 1))).map encC)) ?_ ?_
    · simp [h, hp, h1, h2, h3, h4, hb]
      refine condR_mk (fun g => ?_) (fun g => ?_) <;> simp at g <;> simp [h1, h2, h3, h4, hb]
      · refine RDraw_mk [13, 15] (.go 0 .p (.go 2 .p (.go 4 .p (.go 6 .p (.go 1 .l (.go 3 .l (.go 5 .l (.go 7 .l (.go 8 .p (.go 9 .p (.go 10 .l (.go 11 .p (.go 12 .c (.go 13 .x (.go 14 .p (.go 15 .x .nil)))))))))))))))) (by kernel_rfl) ?_
        have q0 : ¬ K = s.row.length := by omega
        have q1 : ¬ K = s.row.length + 1 := by omega
        rw [if_neg g] at hs
        simp [h, hp, h1, h2, h3, h4, hb, hK, q0]
        rw [if_pos (by omega)]
        simp [h, hp, h1, h2, h3, h4, hb, hK, q0, q1, hs]
        done
      · rw [if_pos g] at hs
        simp [hs, hK]
        done
    · rintro F s ⟨h1, h2, h3, h4, K, rest, hb, hK⟩
      simp [h1, h2, h3, h4, hb, hw]
      refine .here ⟨⟨i + 1, by omega, h1, h2, h3, by simp, K, rest, hb, hK⟩, ?_⟩
      simp [AV.num]; omega
  · have : i = s0.length := by omega
    subst this
    rw [List.take_length] at hb hK
    simp [h1, h2, h3, h4, hb, hK]
theorem modelF_filter : ∀ s : List SlotV, modelF (s.filter nonE) = modelF s
  | [] => rfl
  | x :: s => by
    by_cases hx : nonE x = true
    · rw [List.filter_cons_of_pos hx]
      simp only [modelF, List.filterMap_cons]
      have := modelF_filter s
      unfold modelF at this
      rw [this]
    · rw [List.filter_cons_of_neg hx, modelF_filter s]
      have : readF x = none := readF_nil (by simpa [nonE] using hx)
      simp [modelF, List.filterMap_cons, this]
def VMI (s0 : List SlotV) (i : Nat) (s : St) : Prop :=
  ∃ K rest, s.box = (26, [.sl 49 3 .ro (s0.map encSl)]) :: (52, [.sl 0 0 .nil []]) :: (52, [.so K 0 (modelF ((s0.filter nonE).take i)).length]) :: (26, [.sl 49 3 .ro (s0.map encSl)]) :: rest ∧ s.at K = some (55, 6, (modelF ((s0.filter nonE).take i)).map encC)
theorem vModel_pure (s0 : List SlotV) (hl : s0.length < 1000000000) : Pure Try.prog 15 [encS s0] [] (.agg [.sl 55 6 .fz ((modelF s0).map encC)]) := by
  refine Pure.of_run hmix Try.func15 (by kernel_rfl) rfl ⟨Try.ntmps15, by simp⟩ ?_
  simp
  refine callW_of (by simp) ?_
  simp
  refine (slots_sound s0).run ?_
  rintro s' y ⟨rfl, rfl⟩
  simp
  refine run_range_weak (Weak.adoptBox (b := 2) (j := 0) (by simp; exact ⟨rfl, rfl⟩) (by simp; exact ⟨rfl, rfl, rfl⟩) 55 6 (by omega)) ?_
  have hfl : (s0.filter nonE).length ≤ s0.length := List.length_filter_le _ _
  refine run_range 29 [.ptr 3 0] (slotsF s0) (VMI s0) rfl (by simp) (slots1_iter s0 hl 3 (VMI s0) ?_ ?_) ?_ (by simp) ?_ ?_ ?_
  · rintro i s ⟨K, rest, hb, hK⟩
    simp [hb]
  · rintro i s y ⟨K, rest, hb, hK⟩
    exact ⟨K, rest ++ [y], by simp [hb], hK⟩
  · intro x hx
    simp only [slotsF, List.mem_map] at hx
    obtain ⟨y, _, rfl⟩ := hx
    rfl
  · exact ⟨0, [], by simp [modelF], by simp [modelF]; rfl⟩
  · rintro i x s hx ⟨K, rest, hb, hK⟩
    simp only [slotsF, List.getElem?_map] at hx
    obtain ⟨y, hy, rfl⟩ := Option.map_eq_some_iff.1 hx
    have hi := (List.getElem?_eq_some_iff.1 hy).1
    have hyi := (List.getElem?_eq_some_iff.1 hy).2
    have hp : 0 < y.alts.length := by
      have := List.mem_filter.1 (List.mem_of_getElem? hy)
      simpa [nonE] using this.2
    have hKl := at_lt hK
    have hs := modelF_suc (s0.filter nonE) i hi
    rw [hyi, readF_pos hp] at hs
    obtain ⟨o, ho⟩ : ∃ o, o = modelF ((s0.filter nonE).take i) := ⟨_, rfl⟩
    rw [← ho] at hs hK hb
    have hol : o.length ≤ i := by have := modelF_len ((s0.filter nonE).take i); rw [← ho] at this; simp at this; omega
    simp [hb, hp]
    refine condR_mk (fun g => ?_) (fun g => ?_) <;> simp at g <;> simp [hb, hp]
    · have q0 : ¬ K = s.row.length := by omega
      have q1 : ¬ K = s.row.length + 1 := by omega
      rw [if_neg g] at hs
      simp [hb, hp, hK, q0]
      rw [if_pos (by omega)]
      simp [hb, hp, hK, q0, q1]
      refine .here ⟨s.row.length + 1, ?r, ?h1, ?h2⟩
      case h1 => rw [hs]; simp; rfl
      case h2 => rw [hs]; simp
    · rw [if_pos g] at hs
      refine .here ⟨K, ?r, ?h1, ?h2⟩
      case h1 => rw [hs]; simp; try rfl
      case h2 => rw [hs]; simpa using hK
  · rintro s ⟨K, rest, hb, hK⟩
    have e : (s0.filter nonE).take (slotsF s0).length = s0.filter nonE := List.take_of_length_le (by simp [slotsF])
    rw [e, modelF_filter] at hb hK
    simp [hb, hK]
end Go.Proofs.YtmcfgljdpjalfaaV
