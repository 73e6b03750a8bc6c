/- Contracts: the document's regions of a state. -/
import Derived.Test.YtmcfgljdpjalfaaD5
set_option linter.unusedVariables false
set_option linter.unusedSimpArgs false
set_option linter.constructorNameAsVariable false
set_option linter.unusedSectionVars false
namespace Go.Proofs.YtmcfgljdpjalfaaV
open Go.RowKit Go.Proofs
attribute [local simp ↓] run_nil run_seq run_skip run_region run_draw run_cond run_block run_exit run_ret run_b run_l run_k rexit_c rexit_l rexit_k rexit_b rops_nil rplan_nil rops_cons rops_guard rplan_cons rplan_two condR_true condR_false
attribute [local simp] planR_some planR_guard rrest_o rrest_p gS_some gR_tt gR_ff gR_ft gR_tf gR_tup valP_some valP_none valE_some valE_none valS_some opR_move opR_assign opR_pick opR_binOp opR_unOp opR_convert opR_convertl opR_extract opR_field opR_fieldAddr opR_indexAddr opR_index opR_slice opR_makeFunc opR_build opR_load opR_loadl opR_p opR_store opR_alloc opR_box opR_buildSlice opR_makeSlice opR_allocc opR_boxc opR_buildSlicec opR_makeSlicec opR_len opR_append opR_clear opR_call opR_callc opR_makeMap opR_makeMapc opR_mapEntry opR_lookup opR_lookupl opR_mapUpdate opR_insert opR_entryStore
attribute [local simp] evP boxAV allocAV okCells_agg okCells_sl okCells_so okCells_int okCells_bool okCells_str okCells_nilp okCells_nilfn okCells_ptr okCells_fn okCells_ub loadAV loadEl storeAV storeEl partAV partAV0 fieldAV fieldAddrAV indexAddrAV indexAV lenAV sliceAV boundAV fieldAt? elemOf? kindOf look cst updO upd dstOk binAV_int binAV_str binAV_bool binAV_fn binAV_nilfn binAV_agg binAV_sl eqUb binInt binStr isShift shiftInt unAV convAV bytesAV bytesOf clearAV TD.agg RetQ resAV resAVs resAV1 F0 AV.ret AV.retL St.empty fnOf_fn gslot buildAV fillAV placesAV buildSliceAV makeSliceAV appendAV appRow_so appRow_nil listAV_sl listAV_so cutL fillE zeroElem? addRows_nil le_refl leL_refl le_agg le_tup le_int le_bool le_str le_sl leL_nil leL_cons conv0 conv_tk arg_tk res_tk fzn_tk fzn_so fzn_elo fzn_ptr res_so deep_tk tkArg_ro tkArg_fz tkArg_nil tkRes_ro tkRes_nil tkRes_fz conv_so arg_so deepc_so deepa_so at_new at_nil at_box live_at' new_len new_box put_len put_box retL_append retL_take retL_drop retL_set retL_replicate at_fzn fzn_len fzn_mo res_mo arg_mo conv_mo makeMapAV mapAV lookAV keyBits keyBits1 allBits keyOk basicD updL En.body fzn_box
attribute [local simp] encV encA encI encSl encC encSp encM encS encMo eqV10 eqV0 eqA10 eqSp10 eqOp retL_V retL_A retL_I retL_C retL_Sp retL_M retL_Sl_conv retL_Sl_arg retL_Sl_res retL_Sl_fzn retL_Sl_dc retL_Sl_da retL_G_conv retL_G_arg retL_G_res retL_G_fzn retL_G_dc retL_G_da T_int T_bool T_u8 T_string T_MarkL T_Slots T_StateT T_RegionL T_Alts T_ints T_Region T_Mark T_Value T_Alt T_Slot T_Cells T_ModelT T_Cell T_seqSlot T_mapSpot T_SpotL T_Spot T_yieldSlot
/-- The value regions of a state. -/
def valsF (s : List SlotV) : List RegV := (s.filter fun x => unlikeB x.alts).map fun x => ⟨1, x.id, x.field, x.alts, []⟩
theorem valsF_suc (s : List SlotV) (i : Nat) (h : i < s.length) : valsF (s.take (i + 1)) = valsF (s.take i) ++ if unlikeB s[i].alts = true then [⟨1, s[i].id, s[i].field, s[i].alts, []⟩] else [] := by
  unfold valsF
  rw [List.take_succ_eq_append_getElem h, List.filter_append, List.map_append]
  by_cases hu : unlikeB s[i].alts = true <;> simp [hu]
theorem valsF_len (s : List SlotV) : (valsF s).length ≤ s.length := by
  unfold valsF
  rw [List.length_map]
  exact List.length_filter_le _ _
theorem crowdsF_len (l : List CellV) : (crowdsF l).length ≤ l.length := by
  have := (groupsR_bound l l.length (Nat.le_refl _)).1
  rw [List.take_length] at this
  unfold crowdsF
  rw [List.length_map]
  exact Nat.le_trans (List.length_filter_le _ _) this
def encGn (r : RegV) : AV := .agg [.int .i64 r.kind, .int .i64 r.id, .int .i64 r.field, .sl 45 5 .ro (r.alts.map encA), .sl 0 0 .nil []]
theorem retL_Gn (keep : Nat → Option Nat) (s : St) (t0 : Option Tok) (f : Nat) : ∀ l : List RegV, AV.retL (Ret.deep some keep s t0 f) (l.map encGn) = l.map encGn
  | [] => rfl
  | g :: l => by
    have ih := retL_Gn keep s t0 f l
    simp only [List.map_cons, AV.retL, ih, List.cons.injEq, and_true]
    cases f <;> simp [encGn, AV.ret, AV.retL, Ret.deep, retL_A]
theorem leL_append : ∀ (a b c d : List AV), AV.leL a b → AV.leL c d → AV.leL (a ++ c) (b ++ d)
  | [], [], c, d, _, h => by simpa using h
  | x :: a, y :: b, c, d, h, k => by
    simp only [leL_cons] at h
    simp only [List.cons_append, leL_cons]
    exact ⟨h.1, leL_append a b c d h.2 k⟩
  | [], _ :: _, _, _, h, _ => by simp [AV.leL] at h
  | _ :: _, [], _, _, h, _ => by simp [AV.leL] at h
theorem le_Gn (r : RegV) (h : r.ents = []) : (encGn r).le (encG r) := by
  simp [encGn, encG, h, AV.le, AV.leL, leL_refl]
def RRI (s0 : List SlotV) (i : Nat) (F : Fr) (s : St) : Prop :=
  i ≤ s0.length ∧ F 1 = .ptr 0 0 ∧ F 4 = .int .i64 i ∧ ∃ K rest, s.box = (26, [.sl 49 3 .ro (s0.map encSl)]) :: rest ∧ F 3 = .so K 0 (valsF (s0.take i)).length ∧ s.at K = some (36, 5, (valsF (s0.take i)).map encGn)
theorem rRegions_pure (s0 : List SlotV) (hl : s0.length < 1000000000) (hne : ∀ x ∈ s0, 0 < x.alts.length) (hal : ∀ x ∈ s0, x.alts.length < 1000000000) : Pure Try.prog 8 [encS s0] [] (.sl 36 5 .fz ((valsF s0 ++ crowdsF (modelF s0)).map encG)) := by
  refine Pure.of_run hmix Try.func8 (by kernel_rfl) rfl ⟨Try.ntmps8, by simp⟩ ?_
  simp [-run_seq]
  rw [run_seq]
  simp [-run_seq]
  rw [run_seq]
  simp [-run_seq]
  rw [run_seq]
  refine run_cut (fun F s => RRI s0 s0.length F s) ?_ ?_
  · simp
    refine run_loop (fun F s => ∃ i, RRI s0 i F s) (fun F _ => s0.length - (F 4).num) (.by (Weak.adopt (i := 3) (by simp; exact ⟨rfl, rfl, rfl⟩) 36 5 (by omega)) (.here ⟨0, by omega, by simp, by simp, 0, [], by simp, by simp [valsF], by simp [valsF]⟩)) ?_
    rintro F s ⟨i, hi, h1, h4, K, rest, hb, h3, hK⟩
    have hKl := at_lt hK
    simp [-run_block, h1, h3, h4, hb]
    refine condR_mk (fun h => ?_) (fun h => ?_) <;> simp at h <;> simp [-run_block, h1, h3, h4, hb]
    · have hw := wrap_suc i (by omega)
      have hs := valsF_suc s0 i h
      obtain ⟨o, ho⟩ : ∃ o, o = valsF (s0.take i) := ⟨_, rfl⟩
      rw [← ho] at hs hK h3
      have hol : o.length ≤ i := by have := valsF_len (s0.take i); rw [← ho] at this; simp at this; omega
      have ha := hal _ (List.getElem_mem h)
      refine run_cut (fun F s => F 1 = .ptr 0 0 ∧ F 4 = .int .i64 i ∧ ∃ K rest, s.box = (26, [.sl 49 3 .ro (s0.map encSl)]) :: rest ∧ F 3 = .so K 0 (valsF (s0.take (i + 1))).length ∧ s.at K = some (36, 5, (valsF (s0.take (i + 1))).map encGn)) ?_ ?_
      · simp [h, h1, h3, h4, hb]
        refine callW_of (by simp) ?_
        simp [h, h1, h3, h4, hb]
        refine (rUnlike_pure s0[i].alts ha).run true (by simp [h, h1, h3, h4, hb]) ?_
        simp [h, h1, h3, h4, hb]
        by_cases g : unlikeB s0[i].alts = true
        · have q0 : ¬ K = s.row.length := by omega
          rw [if_pos g] at hs
          simp [g, h, h1, h3, h4, hb, hK, q0]
          rw [if_pos (by omega)]
          simp [g, h, h1, h3, h4, hb, hK, q0, hs, encGn]
          done
        · have g' : unlikeB s0[i].alts = false := by simpa using g
          rw [if_neg g] at hs
          simp [g', h, h1, h3, h4, hb, hK, hs]
          done
      · rintro F s ⟨h1, h4, K, rest, hb, h3, hK⟩
        simp [h1, h3, h4, hb, hw]
        refine .here ⟨⟨i + 1, by omega, h1, by simp, K, rest, hb, h3, hK⟩, ?_⟩
        simp [AV.num]; omega
    · have : i = s0.length := by omega
      subst this
      exact ⟨by omega, h1, by simp [h4], K, rest, hb, by simp [h3], hK⟩
  · rintro F s ⟨hi, h1, h4, K, rest, hb, h3, hK⟩
    rw [List.take_length] at h3 hK
    have hml := modelF_len s0
    have hvl := valsF_len s0
    have hcl := crowdsF_len (modelF s0)
    simp [h1, h3, h4, hb]
    refine callW_of (by simp) ?_
    simp [h1, h3, h4, hb]
    refine (rModel_pure s0 hl hne).run true (by simp [h1, h3, h4, hb]) ?_
    simp [h1, h3, h4, hb]
    refine callW_of (by simp) ?_
    simp [h1, h3, h4, hb, hK]
    refine (crowds_pure (modelF s0) (by omega)).run true (by simp [h1, h3, h4, hb, hK]) ?_
    simp [h1, h3, h4, hb, hK]
    rw [if_pos (by omega)]
    simp [h1, h3, h4, hb, hK]
    rw [retL_Gn]
    refine leL_append _ _ _ _ (leL_maps _ fun r hr => le_Gn r ?_) (leL_refl _)
    unfold valsF at hr
    obtain ⟨x, _, rfl⟩ := List.mem_map.1 hr
    rfl
end Go.Proofs.YtmcfgljdpjalfaaV
