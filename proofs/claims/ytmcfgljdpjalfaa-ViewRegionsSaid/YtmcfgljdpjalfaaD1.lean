/- Contracts: registers, slots of a state. -/
import Derived.Test.YtmcfgljdpjalfaaD0
set_option linter.unusedVariables false
set_option linter.unusedSimpArgs false
set_option linter.constructorNameAsVariable false
set_option linter.unusedSectionVars false
namespace Go.Proofs.YtmcfgljdpjalfaaV
open Go.RowKit Go.Proofs
attribute [local simp ↓] run_nil run_seq run_skip run_region run_draw run_cond run_block run_exit run_ret run_b run_l run_k rexit_c rexit_l rexit_k rexit_b rops_nil rplan_nil rops_cons rops_guard rplan_cons rplan_two condR_true condR_false
attribute [local simp] planR_some planR_guard rrest_o rrest_p gS_some gR_tt gR_ff gR_ft gR_tf gR_tup valP_some valP_none valE_some valE_none valS_some opR_move opR_assign opR_pick opR_binOp opR_unOp opR_convert opR_convertl opR_extract opR_field opR_fieldAddr opR_indexAddr opR_index opR_slice opR_makeFunc opR_build opR_load opR_loadl opR_p opR_store opR_alloc opR_box opR_buildSlice opR_makeSlice opR_allocc opR_boxc opR_buildSlicec opR_makeSlicec opR_len opR_append opR_clear opR_call opR_callc opR_makeMap opR_makeMapc opR_mapEntry opR_lookup opR_lookupl opR_mapUpdate opR_insert opR_entryStore
attribute [local simp] evP boxAV allocAV okCells_agg okCells_sl okCells_so okCells_int okCells_bool okCells_str okCells_nilp okCells_nilfn okCells_ptr okCells_fn okCells_ub loadAV loadEl storeAV storeEl partAV partAV0 fieldAV fieldAddrAV indexAddrAV indexAV lenAV sliceAV boundAV fieldAt? elemOf? kindOf look cst updO upd dstOk binAV_int binAV_str binAV_bool binAV_fn binAV_nilfn binAV_agg binAV_sl eqUb binInt binStr isShift shiftInt unAV convAV bytesAV bytesOf clearAV TD.agg RetQ resAV resAVs resAV1 F0 AV.ret AV.retL St.empty fnOf_fn gslot buildAV fillAV placesAV buildSliceAV makeSliceAV appendAV appRow_so appRow_nil listAV_sl listAV_so cutL fillE zeroElem? addRows_nil le_refl leL_refl le_agg le_tup le_int le_bool le_str le_sl leL_nil leL_cons conv0 conv_tk arg_tk res_tk fzn_tk fzn_so fzn_elo fzn_ptr res_so deep_tk tkArg_ro tkArg_fz tkArg_nil tkRes_ro tkRes_nil tkRes_fz conv_so arg_so deepc_so deepa_so at_new at_nil at_box live_at' new_len new_box put_len put_box retL_append retL_take retL_drop retL_set retL_replicate at_fzn fzn_len fzn_mo res_mo arg_mo conv_mo makeMapAV mapAV lookAV keyBits keyBits1 allBits keyOk basicD updL En.body fzn_box
attribute [local simp] encV encA encI encSl encC encSp encM encS encMo eqV10 eqV0 eqA10 eqSp10 eqOp retL_V retL_A retL_I retL_C retL_Sp retL_M retL_Sl_conv retL_Sl_arg retL_Sl_res retL_Sl_fzn retL_Sl_dc retL_Sl_da T_int T_bool T_u8 T_string T_MarkL T_Slots T_StateT T_RegionL T_Alts T_ints T_Region T_Mark T_Value T_Alt T_Slot T_Cells T_ModelT T_Cell T_seqSlot T_mapSpot T_SpotL T_Spot T_yieldSlot
def aheadB (a b c d : Int) : Bool := decide (a < c) || (decide (a = c) && decide (b < d))
theorem Ahead_pure (a b c d : Int) : Pure Try.prog 33 [.int .i64 a, .int .i64 b, .int .i64 c, .int .i64 d] [] (.bool (aheadB a b c d)) := by
  refine Pure.of_run hmix Try.func33 (by kernel_rfl) rfl ⟨Try.ntmps33, by simp⟩ ?_
  simp
  repeat' (first | (refine condR_mk (fun h => ?_) (fun h => ?_) <;> simp [h]) | (refine gR_mk (fun h => ?_) (fun h => ?_) <;> simp [h]))
  all_goals simp_all [aheadB]
/-- Slots in strictly ascending order of their registers. -/
def SortedS (s : List SlotV) : Prop := s.Pairwise fun a b => aheadB a.id a.field b.id b.field = true
theorem aheadB_trans {a b c d e f : Int} (h : aheadB a b c d = true) (k : aheadB c d e f = true) : aheadB a b e f = true := by
  simp only [aheadB, Bool.or_eq_true, Bool.and_eq_true, decide_eq_true_eq] at *
  omega
theorem aheadB_irr (a b : Int) : aheadB a b a b = false := by simp [aheadB]
/-- How many slots come before a register. -/
def placeN (s : List SlotV) (id field : Int) : Nat := (s.takeWhile fun x => aheadB x.id x.field id field).length
theorem placeN_le (s : List SlotV) (id field : Int) : placeN s id field ≤ s.length := by
  unfold placeN
  exact (List.takeWhile_prefix _).length_le
theorem placeN_lt : ∀ (s : List SlotV) (id field : Int) (i : Nat) (h : i < s.length), i < placeN s id field → aheadB s[i].id s[i].field id field = true
  | [], id, field, i, h, _ => by simp at h
  | x :: s, id, field, i, h, hi => by
    unfold placeN at hi
    rw [List.takeWhile_cons] at hi
    split at hi
    · rename_i hx
      cases i with
      | zero => simpa using hx
      | succ i => simpa using placeN_lt s id field i (by simpa using h) (by simpa [placeN] using hi)
    · simp at hi
theorem placeN_ge : ∀ (s : List SlotV) (id field : Int), SortedS s → ∀ (i : Nat) (h : i < s.length), placeN s id field ≤ i → aheadB s[i].id s[i].field id field = false
  | [], id, field, _, i, h, _ => by simp at h
  | x :: s, id, field, hs, i, h, hi => by
    unfold placeN at hi
    rw [List.takeWhile_cons] at hi
    have hs' := List.pairwise_cons.1 hs
    split at hi
    · cases i with
      | zero => simp at hi
      | succ i => simpa using placeN_ge s id field hs'.2 i (by simpa using h) (by simpa [placeN] using hi)
    · rename_i hx
      cases i with
      | zero => simpa using hx
      | succ i =>
        have hil : i < s.length := by simpa using h
        simp only [List.getElem_cons_succ]
        have h1 := hs'.1 s[i] (List.getElem_mem _)
        cases hc : aheadB s[i].id s[i].field id field with
        | false => rfl
        | true => exact absurd (aheadB_trans h1 hc) hx
def PlaceI (s : List SlotV) (id field : Int) (F : Fr) (st : St) : Prop :=
  ∃ lo hi : Nat, lo ≤ placeN s id field ∧ placeN s id field ≤ hi ∧ hi ≤ s.length ∧ F 1 = .int .i64 id ∧ F 2 = .int .i64 field ∧ F 3 = .ptr 0 0 ∧ F 7 = .int .i64 lo ∧ F 8 = .int .i64 hi ∧ st.box = [(26, [.sl 49 3 .ro (s.map encSl)])]
theorem place_pure (s : List SlotV) (id field : Int) (hs : SortedS s) (hl : s.length < 1000000000) : Pure Try.prog 28 [encS s, .int .i64 id, .int .i64 field] [] (.int .i64 (placeN s id field)) := by
  refine Pure.of_run hmix Try.func28 (by kernel_rfl) rfl ⟨Try.ntmps28, by simp⟩ ?_
  simp
  refine RDraw_mk [] (.go 0 .p (.go 3 .p (.go 1 .l (.go 2 .p (.go 4 .p .nil))))) (by kernel_rfl) ?_
  simp
  have hp := placeN_le s id field
  refine run_loop (PlaceI s id field) (fun F _ => (F 8).num - (F 7).num) (.here ⟨0, s.length, by omega, by omega, by omega, by simp⟩) ?_
  rintro F st ⟨lo, hi, hlo, hhi, hhl, h1, h2, h3, h7, h8, hb⟩
  simp [h1, h2, h3, h7, h8, hb]
  refine condR_mk (fun h => ?_) (fun h => ?_) <;> simp at h <;> simp [h1, h2, h3, h7, h8, hb]
  · have hw : IntKind.i64.wrap ((lo : Int) + hi) = ((lo + hi : Nat) : Int) := wrap_in _ (by omega) (by omega)
    have hw2 : IntKind.i64.wrap (((lo + hi : Nat) : Int).tdiv 2) = (((lo + hi) / 2 : Nat) : Int) := by
      rw [Int.tdiv_eq_ediv_of_nonneg (by omega)]
      rw [wrap_in _ (by omega) (by omega)]
      omega
    obtain ⟨m, hm⟩ : ∃ m, m = (lo + hi) / 2 := ⟨_, rfl⟩
    rw [← hm] at hw2
    have hml : m < s.length := by omega
    have hwm : IntKind.i64.wrap ((IntKind.i64.wrap ((lo : Int) + hi)).tdiv 2) = (m : Int) := by rw [hw, hw2]
    simp [h1, h2, h3, h7, h8, hb, hwm, hml]
    refine RDraw_mk [] (.go 0 .p (.go 2 .p (.go 6 .p (.go 8 .p (.go 12 .p (.go 13 .p (.go 1 .l (.go 3 .p (.go 4 .p (.go 5 .l (.go 7 .l (.go 9 .p (.go 10 .p (.go 11 .l (.go 14 .c .nil))))))))))))))) (by kernel_rfl) ?_
    simp [h1, h2, h3, h7, h8, hb, hml]
    refine callW_of (by simp) ?_
    simp [h1, h2, h3, h7, h8, hb]
    refine (Ahead_pure s[m].id s[m].field id field).run true (by simp [h1, h2, h3, h7, h8, hb]) ?_
    simp [h1, h2, h3, h7, h8, hb]
    refine condR_mk (fun g => ?_) (fun g => ?_) <;> simp [h1, h2, h3, h7, h8, hb]
    · have hlt : m < placeN s id field := by
        rcases Nat.lt_or_ge m (placeN s id field) with h | h
        · exact h
        · have := placeN_ge s id field hs m hml h; rw [g] at this; cases this
      have hw3 := wrap_suc m (by omega)
      refine .here ⟨⟨m + 1, hi, by omega, hhi, hhl, h1, h2, h3, by simp [hw3], h8, hb⟩, ?_⟩
      simp [AV.num, hw3, h8]; omega
    · have hge : placeN s id field ≤ m := by
        rcases Nat.lt_or_ge m (placeN s id field) with h | h
        · have := placeN_lt s id field m hml h; rw [g] at this; cases this
        · exact h
      refine .here ⟨⟨lo, m, hlo, hge, by omega, h1, h2, h3, h7, by simp, hb⟩, ?_⟩
      simp [AV.num, h7, h8]; omega
  · have : lo = placeN s id field := by omega
    simp [this]
/-- Whether a register's slot stands at a place. -/
def hitB (s : List SlotV) (k : Nat) (id field : Int) : Bool := match s[k]? with | some x => decide (x.id = id) && decide (x.field = field) | none => false
/-- The alternatives of a register. -/
def altsF (s : List SlotV) (id field : Int) : List AltV := match s[placeN s id field]? with | some x => if x.id = id ∧ x.field = field then x.alts else [] | none => []
theorem altsOf_pure (s : List SlotV) (id field : Int) (hs : SortedS s) (hl : s.length < 1000000000) : Pure Try.prog 12 [encS s, .int .i64 id, .int .i64 field] [] (.sl 45 5 .ro ((altsF s id field).map encA)) := by
  refine Pure.of_run hmix Try.func12 (by kernel_rfl) rfl ⟨Try.ntmps12, by simp⟩ ?_
  simp
  refine callW_of (by simp) ?_
  simp
  refine (place_pure s id field hs hl).run true (by simp) ?_
  simp
  obtain ⟨k, hk⟩ : ∃ k, k = placeN s id field := ⟨_, rfl⟩
  have hf : altsF s id field = match s[k]? with | some x => if x.id = id ∧ x.field = field then x.alts else [] | none => [] := by rw [hk]; rfl
  rw [← hk, hf]
  clear hf
  rcases Nat.lt_or_ge k s.length with h | h
  · have h' : (k : Int) < s.length := by omega
    rw [List.getElem?_eq_getElem h]
    by_cases e1 : s[k].id = id
    · by_cases e2 : s[k].field = field
      · simp [h, h', e1, e2]
      · have b2 : (s[k].field == field) = false := by simp [e2]
        simp [h, h', e1, e2, b2]
    · have b1 : (s[k].id == id) = false := by simp [e1]
      simp [h, h', e1, b1]
  · have h' : ¬ (k : Int) < s.length := by omega
    rw [List.getElem?_eq_none h]
    have h'' : ¬ k < s.length := by omega
    simp [h', h'']
/-- A state in which a register has just these alternatives. -/
def setF (s : List SlotV) (id field : Int) (l : List AltV) : List SlotV :=
  s.take (placeN s id field) ++ (if l.length = 0 then [] else [⟨id, field, l⟩]) ++ s.drop (if hitB s (placeN s id field) id field = true then placeN s id field + 1 else placeN s id field)
theorem setF_len (s : List SlotV) (id field : Int) (l : List AltV) : (setF s id field l).length ≤ s.length + 1 := by
  unfold setF
  simp only [List.length_append, List.length_take, List.length_drop]
  have := placeN_le s id field
  split <;> split <;> simp <;> omega
theorem Set_pure (s : List SlotV) (id field : Int) (l : List AltV) (hs : SortedS s) (hl : s.length < 1000000000) : Pure Try.prog 14 [encS s, .int .i64 id, .int .i64 field, .sl 45 5 .ro (l.map encA)] [] (encS (setF s id field l)) := by
  refine Pure.of_run hmix Try.func14 (by kernel_rfl) rfl ⟨Try.ntmps14, by simp⟩ ?_
  simp [-run_block]
  refine callW_of (by simp) ?_
  simp
  refine (place_pure s id field hs hl).run true (by simp) ?_
  simp
  obtain ⟨k, hk⟩ : ∃ k, k = placeN s id field := ⟨_, rfl⟩
  have hkl : k ≤ s.length := hk ▸ placeN_le s id field
  have hf : setF s id field l = s.take k ++ (if l.length = 0 then [] else [⟨id, field, l⟩]) ++ s.drop (if hitB s k id field = true then k + 1 else k) := by rw [hk]; rfl
  rw [← hk, hf]
  obtain ⟨mid, hmid⟩ : ∃ mid, mid = if l.length = 0 then [] else [(⟨id, field, l⟩ : SlotV)] := ⟨_, rfl⟩
  obtain ⟨j, hj⟩ : ∃ j, j = if hitB s k id field = true then k + 1 else k := ⟨_, rfl⟩
  rw [← hmid, ← hj]
  clear hf hk
  have hjl : j ≤ s.length ∧ j ≤ k + 1 := by
    rw [hj]
    split
    · rename_i h
      unfold hitB at h
      cases hc : s[k]? with
      | none => rw [hc] at h; cases h
      | some x => have := (List.getElem?_eq_some_iff.1 hc).1; omega
    · omega
  simp [-run_seq, hkl]
  rw [if_pos (by omega)]
  simp [-run_seq, hkl]
  rw [run_seq]
  obtain ⟨o, ho⟩ : ∃ o, o = s.take k ++ mid := ⟨_, rfl⟩
  have hol : o.length ≤ s.length + 1 := by
    rw [ho, hmid]
    simp only [List.length_append, List.length_take]
    split <;> simp <;> omega
  refine run_cut (fun F st => st.box = [(26, [.sl 49 3 .ro (s.map encSl)]), (26, [.sl 0 0 .nil []])] ∧ F 1 = .int .i64 id ∧ F 2 = .int .i64 field ∧ F 4 = .ptr 0 0 ∧ F 8 = .ptr 1 0 ∧ F 9 = .int .i64 k ∧ ∃ K, F 10 = .so K 0 o.length ∧ st.at K = some (49, 3, o.map encSl)) ?_ ?_
  · simp [hkl]
    refine condR_mk (fun h => ?_) (fun h => ?_) <;> simp at h <;> simp [hkl]
    · have hm : mid = [(⟨id, field, l⟩ : SlotV)] := by rw [hmid, if_neg (by omega)]
      rw [if_pos (by omega)]
      simp [hkl, ho, hm]
    · have hm : mid = [] := by rw [hmid, h]; rfl
      simp [hkl, ho, hm]
  · rintro F st ⟨hb, h1, h2, h4, h8, h9, K, h10, hK⟩
    clear hmid
    rw [run_seq]
    refine run_cut (fun F st => st.box = [(26, [.sl 49 3 .ro (s.map encSl)]), (26, [.sl 0 0 .nil []])] ∧ F 4 = .ptr 0 0 ∧ F 8 = .ptr 1 0 ∧ F 9 = .int .i64 j ∧ F 10 = .so K 0 o.length ∧ st.at K = some (49, 3, o.map encSl)) ?_ ?_
    · rcases Nat.lt_or_ge k s.length with h | h
      · have h' : (k : Int) < s.length := by omega
        have hw := wrap_suc k (by omega)
        have hh : hitB s k id field = (decide (s[k].id = id) && decide (s[k].field = field)) := by unfold hitB; rw [List.getElem?_eq_getElem h]
        by_cases e1 : s[k].id = id
        · by_cases e2 : s[k].field = field
          · simp [h, h', e1, e2, hb, h1, h2, h4, h8, h9, h10, hK, hw, hj, hh]
          · have b2 : (s[k].field == field) = false := by simp [e2]
            simp [h, h', e1, e2, b2, hb, h1, h2, h4, h8, h9, h10, hK, hw, hj, hh]
        · have b1 : (s[k].id == id) = false := by simp [e1]
          simp [h, h', e1, b1, hb, h1, h2, h4, h8, h9, h10, hK, hw, hj, hh]
      · have h' : ¬ (k : Int) < s.length := by omega
        have h'' : ¬ k < s.length := by omega
        have hh : hitB s k id field = false := by unfold hitB; rw [List.getElem?_eq_none h]
        simp [h', h'', hb, h1, h2, h4, h8, h9, h10, hK, hj, hh]
    · rintro F st ⟨hb, h4, h8, h9, h10, hK⟩
      have hKl := at_lt hK
      simp [hb, h4, h8, h9, h10, hK, hjl.1]
      rw [if_pos (by omega)]
      simp [hb, h4, h8, h9, h10, hK, hjl.1]
      have e : List.take s.length (List.map encSl s) = List.map encSl s := List.take_of_length_le (by simp)
      rw [e, ho]
      simp
def mvalI (id field stamp : Int) : Prop := 0 < id ∧ id < 8388608 ∧ 0 < field ∧ field < 12 ∧ 0 < stamp ∧ stamp < 8388608
theorem mValue_pure (id field stamp : Int) (h : mvalI id field stamp) : Pure Try.prog 13 [.int .i64 id, .int .i64 field, .int .i64 stamp] [] (encV (mvalF id field stamp)) := by
  obtain ⟨a1, a2, b1, b2, c1, c2⟩ := h
  refine Pure.of_run hmix Try.func13 (by kernel_rfl) rfl ⟨Try.ntmps13, by simp⟩ ?_
  simp
  have m1 := modE_lo (field * stamp) 2
  have m2 := modE_hi (field * stamp) 2 (by omega)
  have p1 : field * stamp ≤ 11 * 8388607 := by
    have := Int.mul_le_mul (show field ≤ 11 by omega) (show stamp ≤ 8388607 by omega) (by omega) (by omega)
    omega
  have p0 : 0 ≤ field * stamp := Int.mul_nonneg (by omega) (by omega)
  have q : modE (field * stamp) 2 * id ≤ 8388608 ∧ 0 ≤ modE (field * stamp) 2 * id := by
    have : modE (field * stamp) 2 = 0 ∨ modE (field * stamp) 2 = 1 := by omega
    rcases this with h | h <;> rw [h] <;> omega
  refine callW_of (by simp) ?_
  simp
  refine (Mod_pure stamp 4 (by omega)).run true (by simp) ?_
  simp
  refine callW_of (by simp) ?_
  simp
  refine (Mod_pure (IntKind.i64.wrap (id + stamp)) 3 (by omega)).run true (by simp) ?_
  simp
  refine callW_of (by simp) ?_
  simp
  refine (Mod_pure (IntKind.i64.wrap (field * stamp)) 2 (by omega)).run true (by simp) ?_
  simp
  rw [wrap_in (id + stamp) (by omega) (by omega), wrap_in (field * stamp) (by omega) (by omega), wrap_in _ (by omega) (by omega)]
  simp [mvalF]
  rw [Bool.eq_iff_iff]
  simp
theorem SameAlts_pure (a b : List AltV) (hl : a.length < 1000000000) : Pure Try.prog 25 [.sl 45 5 .ro (a.map encA), .sl 45 5 .ro (b.map encA)] [] (.bool (decide (a = b))) := by
  refine Pure.of_run hmix Try.func25 (by kernel_rfl) rfl ⟨Try.ntmps25, by simp⟩ ?_
  simp
  refine condR_mk (fun h => ?_) (fun h => ?_) <;> simp at h <;> simp
  · intro h'; subst h'; exact h rfl
  refine run_loop (fun F _ => ∃ i : Nat, i ≤ a.length ∧ F 0 = .sl 45 5 .ro (a.map encA) ∧ F 1 = .sl 45 5 .ro (b.map encA) ∧ F 5 = .int .i64 i ∧ a.take i = b.take i) (fun F _ => a.length - (F 5).num) (.here ⟨0, by simp⟩) ?_
  rintro F s ⟨i, hi, h0, h1, h5, ho⟩
  simp [h0, h1, h5]
  refine condR_mk (fun h2 => ?_) (fun h2 => ?_) <;> simp at h2 <;> simp [h0, h1, h5]
  · refine RDraw_mk [] (.go 0 .p (.go 1 .p (.go 2 .p (.go 4 .p (.go 5 .p (.go 6 .p (.go 3 .l (.go 7 .l (.go 8 .p .nil))))))))) (by kernel_rfl) ?_
    have hb : i < b.length := by omega
    simp [h2, hb, h0, h1, h5]
    refine condR_mk (fun h3 => ?_) (fun h3 => ?_) <;> simp at h3 <;> simp [h0, h1, h5]
    · intro h'; subst h'; exact h3 rfl
    · have hw := wrap_suc i (by omega)
      simp [hw]
      refine .here ⟨⟨i + 1, by omega, h0, h1, rfl, ?_⟩, ?_⟩
      · rw [List.take_add_one, List.take_add_one, ho, List.getElem?_eq_getElem h2, List.getElem?_eq_getElem hb, h3]
      · simp [AV.num]; omega
  · have : i = a.length := by omega
    subst this
    have hn : a.length = b.length := by omega
    rw [List.take_length, hn, List.take_length] at ho
    exact ho
theorem sameInts_pure (a b : List Int) (hl : a.length < 1000000000) : Pure Try.prog 26 [.sl 3 1 .ro (a.map encI), .sl 3 1 .ro (b.map encI)] [] (.bool (decide (a = b))) := by
  refine Pure.of_run hmix Try.func26 (by kernel_rfl) rfl ⟨Try.ntmps26, by simp⟩ ?_
  simp
  refine condR_mk (fun h => ?_) (fun h => ?_) <;> simp at h <;> simp
  · intro h'; subst h'; exact h rfl
  refine run_loop (fun F _ => ∃ i : Nat, i ≤ a.length ∧ F 0 = .sl 3 1 .ro (a.map encI) ∧ F 1 = .sl 3 1 .ro (b.map encI) ∧ F 5 = .int .i64 i ∧ a.take i = b.take i) (fun F _ => a.length - (F 5).num) (.here ⟨0, by simp⟩) ?_
  rintro F s ⟨i, hi, h0, h1, h5, ho⟩
  simp [h0, h1, h5]
  refine condR_mk (fun h2 => ?_) (fun h2 => ?_) <;> simp at h2 <;> simp [h0, h1, h5]
  · refine RDraw_mk [] (.go 0 .p (.go 1 .p (.go 2 .p (.go 4 .p (.go 5 .p (.go 6 .p (.go 3 .l (.go 7 .l (.go 8 .p .nil))))))))) (by kernel_rfl) ?_
    have hb : i < b.length := by omega
    simp [h2, hb, h0, h1, h5]
    refine condR_mk (fun h3 => ?_) (fun h3 => ?_) <;> simp at h3 <;> simp [h0, h1, h5]
    · intro h'; subst h'; exact h3 rfl
    · have hw := wrap_suc i (by omega)
      simp [hw]
      refine .here ⟨⟨i + 1, by omega, h0, h1, rfl, ?_⟩, ?_⟩
      · rw [List.take_add_one, List.take_add_one, ho, List.getElem?_eq_getElem h2, List.getElem?_eq_getElem hb, h3]
      · simp [AV.num]; omega
  · have : i = a.length := by omega
    subst this
    have hn : a.length = b.length := by omega
    rw [List.take_length, hn, List.take_length] at ho
    exact ho
/-- Whether the alternatives do not all have the first one's value. -/
def unlikeB (l : List AltV) : Bool := match l with | [] => false | a :: r => r.any fun b => decide (b.v ≠ a.v)
theorem unlike_go (l : List AltV) (h0 : 0 < l.length) : unlikeB l = (l.drop 1).any fun b => decide (b.v ≠ l[0].v) := by
  cases l with
  | nil => simp at h0
  | cons a r => rfl
theorem unlike_all (l : List AltV) (h0 : 0 < l.length) : unlikeB l = l.any fun b => decide (b.v ≠ l[0].v) := by
  cases l with
  | nil => simp at h0
  | cons a r => simp [unlikeB]
theorem rUnlike_pure (l : List AltV) (hl : l.length < 1000000000) : Pure Try.prog 22 [.sl 45 5 .ro (l.map encA)] [] (.bool (unlikeB l)) := by
  refine Pure.of_run hmix Try.func22 (by kernel_rfl) rfl ⟨Try.ntmps22, by simp⟩ ?_
  simp
  refine run_loop (fun F _ => ∃ i : Nat, 1 ≤ i ∧ (i ≤ l.length ∨ i = 1) ∧ F 0 = .sl 45 5 .ro (l.map encA) ∧ F 3 = .int .i64 i ∧ (∀ h0 : 0 < l.length, unlikeB l = (l.drop i).any fun b => decide (b.v ≠ l[0].v))) (fun F _ => l.length - (F 3).num) (.here ⟨1, by omega, by omega, by simp, by simp, fun h0 => unlike_go l h0⟩) ?_
  rintro F s ⟨i, h1i, hi, h0, h3, ho⟩
  simp [h0, h3]
  refine condR_mk (fun h => ?_) (fun h => ?_) <;> simp at h <;> simp [h0, h3]
  · refine RDraw_mk [] (.go 0 .p (.go 1 .p (.go 2 .p (.go 3 .p (.go 5 .p (.go 6 .p (.go 7 .p (.go 4 .l (.go 8 .l (.go 9 .p .nil)))))))))) (by kernel_rfl) ?_
    have hb : 0 < l.length := by omega
    have ho' := ho hb
    rw [List.drop_eq_getElem_cons h, List.any_cons] at ho'
    simp [h, hb, h0, h3]
    refine condR_mk (fun g => ?_) (fun g => ?_) <;> simp at g <;> simp [h0, h3]
    · rw [ho']; simp [g]
    · have hw := wrap_suc i (by omega)
      simp [hw]
      refine .here ⟨⟨i + 1, by omega, by omega, h0, rfl, fun _ => by rw [ho']; simp [g]⟩, ?_⟩
      simp [AV.num]; omega
  · rcases Nat.eq_zero_or_pos l.length with hz | hz
    · have : l = [] := List.eq_nil_of_length_eq_zero hz
      subst this
      rfl
    · rw [ho hz, List.drop_of_length_le (by omega)]
      rfl
theorem vUnlike_pure (l : List AltV) (hl : l.length < 1000000000) : Pure Try.prog 17 [.sl 45 5 .ro (l.map encA)] [] (.bool (unlikeB l)) := by
  refine Pure.of_run hmix Try.func17 (by kernel_rfl) rfl ⟨Try.ntmps17, by simp⟩ ?_
  simp
  refine run_loop (fun F _ => ∃ i : Nat, i ≤ l.length ∧ F 0 = .sl 45 5 .ro (l.map encA) ∧ F 5 = .sl 45 5 .ro (l.map encA) ∧ F 6 = .int .i64 l.length ∧ F 7 = .int .i64 i ∧ (∀ h0 : 0 < l.length, unlikeB l = (l.drop i).any fun b => decide (b.v ≠ l[0].v))) (fun F _ => l.length - (F 7).num) (.here ⟨0, by omega, by simp, by simp, by simp, by simp, fun h0 => unlike_all l h0⟩) ?_
  rintro F s ⟨i, hi, h0, h5, h6, h7, ho⟩
  simp [h0, h5, h6, h7]
  refine condR_mk (fun h => ?_) (fun h => ?_) <;> simp at h <;> simp [h0, h5, h6, h7]
  · have hb : 0 < l.length := by omega
    have ho' := ho hb
    rw [List.drop_eq_getElem_cons h, List.any_cons] at ho'
    simp [h, hb, h0, h5, h6, h7]
    refine RDraw_mk [] (.go 0 .p (.go 2 .p (.go 3 .p (.go 4 .p (.go 1 .l (.go 5 .l (.go 6 .p .nil))))))) (by kernel_rfl) ?_
    simp [h, hb, h0, h5, h6, h7]
    refine condR_mk (fun g => ?_) (fun g => ?_) <;> simp at g <;> simp [h0, h5, h6, h7]
    · rw [ho']; simp [g]
    · have hw := wrap_suc i (by omega)
      simp [hw]
      refine .here ⟨⟨i + 1, by omega, h0, h5, h6, rfl, fun _ => by rw [ho']; simp [g]⟩, ?_⟩
      simp [AV.num]; omega
  · rcases Nat.eq_zero_or_pos l.length with hz | hz
    · have : l = [] := List.eq_nil_of_length_eq_zero hz
      subst this
      rfl
    · rw [ho hz, List.drop_of_length_le (by omega)]
      rfl
theorem CloneA_pure (l : List AltV) (hl : l.length < 1000000000) : Pure Try.prog 18 [.sl 45 5 .ro (l.map encA)] [] (.sl 45 5 .fz (l.map encA)) := by
  refine Pure.of_run hmix Try.func18 (by kernel_rfl) rfl ⟨Try.ntmps18, by simp⟩ ?_
  simp
  cases l with
  | nil =>
    simp
    refine condR_ub ?_ ?_ <;> simp
  | cons a r =>
    have hr : r.length + 1 < 1000000000 := by simpa using hl
    simp
    rw [if_pos (by omega)]
    simp
theorem Spots_pure (a b : SpotV) : Pure Try.prog 20 [encSp a, encSp b] [] (.int .i64 (if a.id = b.id then cmpI a.field b.field else cmpI a.id b.id)) := by
  refine Pure.of_run hmix Try.func20 (by kernel_rfl) rfl ⟨Try.ntmps20, by simp⟩ ?_
  simp
  refine condR_mk (fun h => ?_) (fun h => ?_) <;> simp at h <;> simp [h]
  · refine condR_mk (fun h1 => ?_) (fun h1 => ?_) <;> simp at h1 <;> simp [cmpI, h1]
    omega
  · refine condR_mk (fun h1 => ?_) (fun h1 => ?_) <;> simp at h1 <;> simp [cmpI, h1]
    refine condR_mk (fun h2 => ?_) (fun h2 => ?_) <;> simp at h2 <;> simp [h2]
    all_goals omega
end Go.Proofs.YtmcfgljdpjalfaaV
