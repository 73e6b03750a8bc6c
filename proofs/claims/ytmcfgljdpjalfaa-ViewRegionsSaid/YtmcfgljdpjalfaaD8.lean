/- Contracts: the program's regions of a state. -/
import Derived.Test.YtmcfgljdpjalfaaD7
set_option linter.unusedVariables false
set_option linter.unusedSimpArgs false
set_option linter.constructorNameAsVariable false
set_option linter.unusedSectionVars false
namespace Go.Proofs.YtmcfgljdpjalfaaV
open Go.RowKit Go.Proofs
attribute [local simp ↓] run_nil run_seq run_skip run_region run_draw run_cond run_block run_exit run_ret run_b run_l run_k rexit_c rexit_l rexit_k rexit_b rops_nil rplan_nil rops_cons rops_guard rplan_cons rplan_two condR_true condR_false
attribute [local simp] planR_some planR_guard rrest_o rrest_p gS_some gR_tt gR_ff gR_ft gR_tf gR_tup valP_some valP_none valE_some valE_none valS_some opR_move opR_assign opR_pick opR_binOp opR_unOp opR_convert opR_convertl opR_extract opR_field opR_fieldAddr opR_indexAddr opR_index opR_slice opR_makeFunc opR_build opR_load opR_loadl opR_p opR_store opR_alloc opR_box opR_buildSlice opR_makeSlice opR_allocc opR_boxc opR_buildSlicec opR_makeSlicec opR_len opR_append opR_clear opR_call opR_callc opR_makeMap opR_makeMapc opR_mapEntry opR_lookup opR_lookupl opR_mapUpdate opR_insert opR_entryStore
attribute [local simp] evP boxAV allocAV okCells_agg okCells_sl okCells_so okCells_int okCells_bool okCells_str okCells_nilp okCells_nilfn okCells_ptr okCells_fn okCells_ub loadAV loadEl storeAV storeEl partAV partAV0 fieldAV fieldAddrAV indexAddrAV indexAV lenAV sliceAV boundAV fieldAt? elemOf? kindOf look cst updO upd dstOk binAV_int binAV_str binAV_bool binAV_fn binAV_nilfn binAV_agg binAV_sl eqUb binInt binStr isShift shiftInt unAV convAV bytesAV bytesOf clearAV TD.agg RetQ resAV resAVs resAV1 F0 AV.ret AV.retL St.empty fnOf_fn gslot buildAV fillAV placesAV buildSliceAV makeSliceAV appendAV appRow_so appRow_nil listAV_sl listAV_so cutL fillE zeroElem? addRows_nil le_refl leL_refl le_agg le_tup le_int le_bool le_str le_sl leL_nil leL_cons conv0 conv_tk arg_tk res_tk fzn_tk fzn_so fzn_elo fzn_ptr res_so deep_tk tkArg_ro tkArg_fz tkArg_nil tkRes_ro tkRes_nil tkRes_fz conv_so arg_so deepc_so deepa_so at_new at_nil at_box live_at' new_len new_box put_len put_box retL_append retL_take retL_drop retL_set retL_replicate at_fzn fzn_len fzn_mo res_mo arg_mo conv_mo makeMapAV mapAV lookAV keyBits keyBits1 allBits keyOk basicD updL En.body fzn_box
attribute [local simp] encV encA encI encSl encC encSp encM encS encMo eqV10 eqV0 eqA10 eqSp10 eqOp retL_V retL_A retL_I retL_C retL_Sp retL_M retL_Sl_conv retL_Sl_arg retL_Sl_res retL_Sl_fzn retL_Sl_dc retL_Sl_da retL_G_conv retL_G_arg retL_G_res retL_G_fzn retL_G_dc retL_G_da T_int T_bool T_u8 T_string T_MarkL T_Slots T_StateT T_RegionL T_Alts T_ints T_Region T_Mark T_Value T_Alt T_Slot T_Cells T_ModelT T_Cell T_seqSlot T_mapSpot T_SpotL T_Spot T_yieldSlot
def encGf (r : RegV) : AV := .agg [.int .i64 r.kind, .int .i64 r.id, .int .i64 r.field, .sl 45 5 .fz (r.alts.map encA), .sl 0 0 .nil []]
theorem retL_Gf (keep : Nat → Option Nat) (s : St) (t0 : Option Tok) (f : Nat) : ∀ l : List RegV, AV.retL (Ret.deep some keep s t0 f) (l.map encGf) = l.map encGf
  | [] => rfl
  | g :: l => by
    have ih := retL_Gf keep s t0 f l
    simp only [List.map_cons, AV.retL, ih, List.cons.injEq, and_true]
    cases f <;> simp [encGf, AV.ret, AV.retL, Ret.deep, retL_A]
theorem le_Gf (r : RegV) (h : r.ents = []) : (encGf r).le (encG r) := by
  simp [encGf, encG, h, AV.le, AV.leL, leL_refl]
theorem valsF_filter : ∀ s : List SlotV, valsF (s.filter nonE) = valsF s
  | [] => rfl
  | x :: s => by
    have ih := valsF_filter s
    unfold valsF at ih ⊢
    by_cases hx : nonE x = true
    · rw [List.filter_cons_of_pos hx]
      by_cases hu : unlikeB x.alts = true
      · simp only [List.filter_cons, hu, if_true, List.map_cons, ih]
      · have hu' : unlikeB x.alts = false := by simpa using hu
        simp only [List.filter_cons, hu', Bool.false_eq_true, if_false, ih]
    · rw [List.filter_cons_of_neg hx, ih]
      have e : x.alts = [] := by
        have : ¬ 0 < x.alts.length := by simpa [nonE] using hx
        exact List.eq_nil_of_length_eq_zero (by omega)
      have hu' : unlikeB x.alts = false := by rw [e]; rfl
      simp only [List.filter_cons, hu', Bool.false_eq_true, if_false]
def VRI (s0 : List SlotV) (i : Nat) (s : St) : Prop :=
  ∃ K rest, s.box = (26, [.sl 49 3 .ro (s0.map encSl)]) :: (30, [.so K 0 (valsF ((s0.filter nonE).take i)).length]) :: (26, [.sl 49 3 .ro (s0.map encSl)]) :: rest ∧ s.at K = some (36, 5, (valsF ((s0.filter nonE).take i)).map encGf)
def VCI (s0 : List SlotV) (i : Nat) (F : Fr) (s : St) : Prop :=
  i ≤ (modelF s0).length ∧ F 3 = .ptr 1 0 ∧ ∃ K M T L rest, F 5 = .mo M ∧ F 6 = .so T 0 L.length ∧ F 33 = .sl 55 6 .fz ((modelF s0).map encC) ∧ F 34 = .int .i64 (modelF s0).length ∧ F 35 = .int .i64 i ∧ s.box = (26, [.sl 49 3 .ro (s0.map encSl)]) :: (30, [.so K 0 (valsF s0).length]) :: rest ∧ s.at K = some (36, 5, (valsF s0).map encGf) ∧ s.at M = some (61, 0, L.map encMp) ∧ s.at T = some (64, 2, (L.map key3).map encSp) ∧ MRows L [K, M, T] s ∧ L.map g2 = groupsF (((modelF s0).take i).filter crowdB)
def VSI (s0 : List SlotV) (L : List G3) (ps : List SpotV) (i : Nat) (F : Fr) (s : St) : Prop :=
  i ≤ ps.length ∧ F 3 = .ptr 1 0 ∧ F 90 = .int .i64 i ∧ ∃ K M T rest, F 5 = .mo M ∧ F 88 = .so T 0 ps.length ∧ F 89 = .int .i64 ps.length ∧ s.box = (26, [.sl 49 3 .ro (s0.map encSl)]) :: (30, [.so K 0 ((valsF s0).length + (selF L (ps.take i)).length)]) :: rest ∧ s.at K = some (36, 5, (valsF s0).map encGf ++ (selF L (ps.take i)).map encG3) ∧ s.at M = some (61, 0, L.map encMp) ∧ s.at T = some (64, 2, ps.map encSp) ∧ MRows L [K, M, T] s
theorem VCI.skip {s0 : List SlotV} {i : Nat} {F F' : Fr} {s s' : St} (hi : i < (modelF s0).length) (hc : crowdB (modelF s0)[i] = false) (hV : VCI s0 i F s) (h3 : F' 3 = F 3) (h5 : F' 5 = F 5) (h6 : F' 6 = F 6) (h33 : F' 33 = F 33) (h34 : F' 34 = F 34) (h35 : F' 35 = .int .i64 (i + 1 : Nat)) (hrow : s'.row = s.row) (hbox : ∃ r, s'.box = s.box ++ r) : VCI s0 (i + 1) F' s' := by
  obtain ⟨_, g3, K, M, T, L, rest, g5, g6, g33, g34, g35, gb, gK, gM, gT, gR, gL⟩ := hV
  have hat : ∀ n, s'.at n = s.at n := fun n => by unfold St.at; rw [hrow]
  obtain ⟨r, hr⟩ := hbox
  refine ⟨by omega, by rw [h3, g3], K, M, T, L, rest ++ r, by rw [h5, g5], by rw [h6, g6], by rw [h33, g33], by rw [h34, g34], h35, by rw [hr, gb]; simp, by rw [hat, gK], by rw [hat, gM], by rw [hat, gT], gR.mono (fun g _ => hat _) (fun g hg => (gR.1 g hg).2.1), ?_⟩
  rw [List.take_succ_eq_append_getElem hi, List.filter_append, gL]
  simp [hc]
theorem vRegions_pure (s0 : List SlotV) (hl : s0.length < 1000000) (hal : ∀ x ∈ s0, x.alts.length < 1000000000) (hso : SortedS s0) : Pure Try.prog 7 [encS s0] [] (.sl 36 5 .fz ((valsF s0 ++ crowdsF (modelF s0)).map encG)) := by
  refine Pure.of_run hmix Try.func7 (by kernel_rfl) rfl ⟨Try.ntmps7, by simp⟩ ?_
  simp [-run_seq]
  rw [run_seq]
  simp [-run_seq]
  rw [run_seq]
  simp [-run_seq]
  rw [run_seq]
  refine run_cut (fun F s => F 1 = .ptr 0 0 ∧ F 3 = .ptr 1 0 ∧ VRI s0 (s0.filter nonE).length s) ?_ ?_
  · simp
    refine callW_of (by simp) ?_
    simp
    refine (slots_sound s0).run ?_
    rintro s' y ⟨rfl, rfl⟩
    simp
    refine run_range_weak (Weak.adoptBox (b := 1) (j := 0) (by simp; exact ⟨rfl, rfl⟩) (by simp; exact ⟨rfl, rfl, rfl⟩) 36 5 (by omega)) ?_
    have hfl : (s0.filter nonE).length ≤ s0.length := List.length_filter_le _ _
    refine run_range 29 [.ptr 2 0] (slotsF s0) (VRI s0) rfl (by simp) (slots1_iter s0 (by omega) 2 (VRI s0) ?_ ?_) ?_ (by simp) ?_ ?_ ?_
    · rintro i s ⟨K, rest, hb, hK⟩
      simp [hb]
    · rintro i s y ⟨K, rest, hb, hK⟩
      exact ⟨K, rest ++ [y], by simp [hb], hK⟩
    · intro x hx
      simp only [slotsF, List.mem_map] at hx
      obtain ⟨y, _, rfl⟩ := hx
      rfl
    · exact ⟨0, [], by simp [valsF], by simp [valsF]; rfl⟩
    · rintro i x s hx ⟨K, rest, hb, hK⟩
      simp only [slotsF, List.getElem?_map] at hx
      obtain ⟨y, hy, rfl⟩ := Option.map_eq_some_iff.1 hx
      have hi := (List.getElem?_eq_some_iff.1 hy).1
      have hyi := (List.getElem?_eq_some_iff.1 hy).2
      have hym : y ∈ s0 := (List.mem_filter.1 (List.mem_of_getElem? hy)).1
      have ha := hal y hym
      have hKl := at_lt hK
      have hs := valsF_suc (s0.filter nonE) i hi
      rw [hyi] at hs
      obtain ⟨o, ho⟩ : ∃ o, o = valsF ((s0.filter nonE).take i) := ⟨_, rfl⟩
      rw [← ho] at hs hK hb
      have hol : o.length ≤ i := by have := valsF_len ((s0.filter nonE).take i); rw [← ho] at this; simp at this; omega
      simp [hb]
      refine callW_of (by simp) ?_
      simp [hb]
      refine (vUnlike_pure y.alts ha).run true (by simp [hb]) ?_
      simp [hb]
      by_cases g : unlikeB y.alts = true
      · have q0 : ¬ K = s.row.length := by omega
        have q1 : ¬ K = s.row.length + 1 := by omega
        rw [if_pos g] at hs
        simp [g, hb]
        refine RDraw_mk [10, 11] (.go 1 .p (.go 3 .p (.go 5 .p (.go 0 .l (.go 2 .l (.go 4 .l (.go 6 .l (.go 7 .c (.go 8 .p (.go 9 .c (.go 10 .x (.go 11 .x .nil)))))))))))) (by kernel_rfl) ?_
        simp [g, hb, hK, q0]
        refine callW_of (by simp) ?_
        simp [g, hb, hK, q0]
        refine (CloneA_pure y.alts ha).run true (by simp [g, hb, hK, q0]) ?_
        simp [g, hb, hK, q0]
        rw [if_pos (by omega)]
        simp [g, hb, hK, q0, q1]
        exact .here ⟨s.row.length + 1, rest ++ [(49, [.int .i64 y.id, .int .i64 y.field, .sl 45 5 .ro (y.alts.map encA)])], by rw [hs]; simp, by rw [hs]; simp [encGf]⟩
      · have g' : unlikeB y.alts = false := by simpa using g
        rw [if_neg g] at hs
        simp [g', hb]
        exact .here ⟨K, rest ++ [(49, [.int .i64 y.id, .int .i64 y.field, .sl 45 5 .ro (y.alts.map encA)])], by rw [hs]; simp, by rw [hs]; simpa using hK⟩
    · rintro s ⟨K, rest, hb, hK⟩
      have e : (s0.filter nonE).take (slotsF s0).length = s0.filter nonE := List.take_of_length_le (by simp [slotsF])
      rw [e] at hb hK
      simp [hb]
      refine ⟨K, rest, ?_, ?_⟩
      · rw [List.take_length]; exact hb
      · rw [List.take_length]; exact hK
  · rintro F s ⟨h1, h3, K, rest, hb, hK⟩
    rw [List.take_length, valsF_filter] at hb hK
    have hml := modelF_len s0
    have hvl := valsF_len s0
    rw [run_seq]
    simp [-run_seq]
    rw [run_seq]
    simp [-run_seq]
    rw [run_seq]
    refine run_cut (fun F s => VCI s0 (modelF s0).length F s) ?_ ?_
    · simp [h1, h3, hb]
      refine callW_of (by simp) ?_
      simp [h1, h3, hb]
      refine (vModel_pure s0 (by omega)).run true (by simp [h1, h3, hb]) ?_
      simp [h1, h3, hb]
      have hKl := at_lt hK
      refine run_loop (fun F s => ∃ i, VCI s0 i F s) (fun F _ => (modelF s0).length - (F 35).num) (.by (Weak.adopt (i := 6) (by simp; exact ⟨rfl, rfl, rfl⟩) 64 2 (by omega)) (.here ⟨0, by omega, by simp [h3], K, s.row.length, s.row.length + 1, [], (26, [.sl 49 3 .ro (s0.map encSl)]) :: rest, ?_, ?_, ?_, ?_, ?_, ?_, ?_, ?_, ?_, ?_, ?_⟩)) ?_
      · simp
      · simp
      · simp
      · simp
      · simp
      · simp [hb]
      · have r1 : ¬ K = s.row.length := by omega
        have r2 : ¬ K = s.row.length + 1 := by omega
        simp [at_new, r1, r2, hK]
      · simp [at_new]
      · simp [at_new]
      · exact ⟨by simp, by simp⟩
      · simp [groupsF]
      rintro F s ⟨i, hV⟩
      obtain ⟨hi, h3, K, M, T, L, rest, h5, h6, h33, h34, h35, hb, hK, hM, hT, hR, hL⟩ := id hV
      have hKl := at_lt hK
      have hMl := at_lt hM
      have hTl := at_lt hT
      have hfl : (((modelF s0).take i).filter crowdB).length ≤ (modelF s0).length := by
        refine Nat.le_trans (List.length_filter_le _ _) ?_
        simp; omega
      have hLl : L.length ≤ (modelF s0).length := by
        have := groupsF_len (((modelF s0).take i).filter crowdB)
        rw [← hL, List.length_map] at this
        omega
      have hLe : ∀ g ∈ L, g.ents.length ≤ (modelF s0).length := fun g hg => by
        have := groupsF_ents (((modelF s0).take i).filter crowdB) (g := g2 g) (by rw [← hL]; exact List.mem_map_of_mem hg)
        exact Nat.le_trans this hfl
      simp [-run_block, h34, h35]
      refine condR_mk (fun h => ?_) (fun h => ?_) <;> simp at h <;> simp [-run_block, h34, h35]
      · have hw := wrap_suc i (by omega)
        refine run_cut (fun F s => F 35 = .int .i64 i ∧ ∀ j, j = i + 1 → VCI s0 j (upd F 35 (.int .i64 j)) s) ?_ ?_
        · obtain ⟨c, hc⟩ : ∃ c, c = (modelF s0)[i] := ⟨_, rfl⟩
          have hmt : (modelF s0)[i]? = some c := by rw [hc]; exact List.getElem?_eq_getElem h
          simp [h, h33, h35, hb]
          rw [← hc]
          have hsucF : ((modelF s0).take (i + 1)).filter crowdB = ((modelF s0).take i).filter crowdB ++ if crowdB c = true then [c] else [] := by
            rw [List.take_succ_eq_append_getElem h, List.filter_append, ← hc]
            by_cases hcr : crowdB c = true <;> simp [hcr]
          by_cases b1 : c.field = 2
          · by_cases b2 : c.v.ref = 0
            · have hc0 : crowdB c = false := by simp [crowdB, b2]
              simp [b1, b2]
              exact ⟨h35, VCI.skip h (by rw [← hc]; exact hc0) hV (by simp) (by simp) (by simp) (by simp) (by simp) (by simp) rfl ⟨_, by rw [hb]; rfl⟩⟩
            · have b2' : (c.v.ref == 0) = false := by simp [b2]
              by_cases b3 : c.v.n < 1
              · have hc0 : crowdB c = false := by simp [crowdB]; omega
                simp [b1, b2, b2', b3]
                exact ⟨h35, VCI.skip h (by rw [← hc]; exact hc0) hV (by simp) (by simp) (by simp) (by simp) (by simp) (by simp) rfl ⟨_, by rw [hb]; rfl⟩⟩
              · by_cases b4 : 3 < c.v.n
                · have hc0 : crowdB c = false := by simp [crowdB]; omega
                  simp [b1, b2, b2', b3, b4]
                  exact ⟨h35, VCI.skip h (by rw [← hc]; exact hc0) hV (by simp) (by simp) (by simp) (by simp) (by simp) (by simp) rfl ⟨_, by rw [hb]; rfl⟩⟩
                · have hc1 : crowdB c = true := by simp [crowdB, b1, b2]; omega
                  simp [b1, b2, b2', b3, b4, h5]
                  rw [look_M ⟨c.v.ref, c.v.n⟩ hM]
                  rcases hg : L[posG L ⟨c.v.ref, c.v.n⟩]? with _ | g
                  · have hans : ansG L ⟨c.v.ref, c.v.n⟩ = .sl 0 0 .nil [] := by unfold ansG; rw [hg]
                    rw [hans]
                    have q0 : ¬ T = s.row.length := by omega
                    have q1 : ¬ T = s.row.length + 1 := by omega
                    simp [h5, h6, hT, q0]
                    rw [if_pos (by omega)]
                    simp [h5]
                    obtain ⟨s1, hs1⟩ : ∃ s1 : St, s1 = ((St.new ⟨(26, [.sl 49 3 .ro (s0.map encSl)]) :: (30, [.so K 0 (valsF s0).length]) :: (rest ++ [(55, [.int .i64 c.id, .int .i64 2, .int .i64 c.v.n, .bool c.v.flag, .str c.v.text, .int .i64 c.v.ref]), (64, [.int .i64 c.v.ref, .int .i64 c.v.n])]), s.row⟩ none (64, 2, [.agg [.int .i64 c.v.ref, .int .i64 c.v.n]])).new (some T) (64, 2, List.map (encSp ∘ key3) L ++ [.agg [.int .i64 c.v.ref, .int .i64 c.v.n]])).new none (3, 1, [.int .i64 c.id]) := ⟨_, rfl⟩
                    rw [← hs1]
                    have hKM : K ≠ M := fun e => by rw [e, hM] at hK; simp at hK
                    have hTM : T ≠ M := fun e => by rw [e, hM] at hT; simp at hT
                    have hTK : T ≠ K := fun e => by rw [e, hK] at hT; simp at hT
                    have a1 : ∀ n, n < s.row.length → n ≠ T → s1.at n = s.at n := fun n hn hne => by
                      have e1 : ¬ n = s.row.length := by omega
                      have e2 : ¬ n = s.row.length + 1 := by omega
                      have e3 : ¬ n = s.row.length + 1 + 1 := by omega
                      have e4 : ¬ T = n := fun e => hne e.symm
                      rw [hs1]
                      simp [at_new, e1, e2, e3, e4]
                    have a2 : s1.at (s.row.length + 2) = some (3, 1, [.int .i64 c.id]) := by
                      rw [hs1, at_new, if_pos (by simp [new_len])]
                    have a4 : s1.at (s.row.length + 1) = some (64, 2, List.map (encSp ∘ key3) L ++ [.agg [.int .i64 c.v.ref, .int .i64 c.v.n]]) := by
                      rw [hs1]
                      simp [at_new]
                    have a3 : s1.row.length = s.row.length + 3 := by rw [hs1]; simp [new_len]
                    have hM1 := a1 M hMl (fun e => hTM e.symm)
                    rw [hM] at hM1
                    rw [entry_M_none ⟨c.v.ref, c.v.n⟩ hM1 hg]
                    obtain ⟨R1, hR1⟩ : ∃ R1 : RowC, R1 = (61, 0, List.map encMp L ++ [.tup [.agg [.int .i64 c.v.ref, .int .i64 c.v.n], .sl 0 0 .nil []]]) := ⟨_, rfl⟩
                    obtain ⟨s2, hs2⟩ : ∃ s2 : St, s2 = s1.put M R1 := ⟨_, rfl⟩
                    have hs2' : (⟨s1.box, s1.row.set M (some (61, 0, List.map encMp L ++ [.tup [.agg [.int .i64 c.v.ref, .int .i64 c.v.n], .sl 0 0 .nil []]]))⟩ : St) = s2 := by rw [hs2, hR1]; rfl
                    simp only [hs2']
                    have b1 : ∀ n, s2.at n = if n = M then some R1 else s1.at n := fun n => by rw [hs2]; exact at_put (by omega) R1 n
                    have b3 : s2.row.length = s.row.length + 3 := by rw [hs2, put_len, a3]
                    have b2 : s2.at (s.row.length + 1 + 1) = some (3, 1, [.int .i64 c.id]) := by rw [b1, if_neg (by omega)]; exact a2
                    simp [b2]
                    obtain ⟨s3, hs3⟩ : ∃ s3, s3 = s2.new none (3, 1, [.int .i64 c.id]) := ⟨_, rfl⟩
                    rw [← hs3]
                    have c1 : ∀ n, n < s2.row.length → s3.at n = s2.at n := fun n hn => by rw [hs3, at_new, if_neg (by omega)]; simp
                    have c2 : s3.at (s.row.length + 3) = some (3, 1, [.int .i64 c.id]) := by rw [hs3, at_new, if_pos (by omega)]
                    have c3 : s3.row.length = s.row.length + 4 := by rw [hs3, new_len]; omega
                    have hM3 : s3.at M = some R1 := by rw [c1 M (by omega), b1, if_pos rfl]
                    rw [hR1] at hM3
                    have hme : (L.map encMp ++ [AV.tup [.agg [.int .i64 c.v.ref, .int .i64 c.v.n], .sl 0 0 .nil []]])[L.length]? = some (.tup [.agg [.int .i64 c.v.ref, .int .i64 c.v.n], .sl 0 0 .nil []]) := by simp
                    rw [store_M hM3 hme]
                    simp
                    refine ⟨h35, ?_⟩
                    have hadd : addM L c (s.row.length + 3) = L ++ [⟨c.v.ref, c.v.n, [c.id], s.row.length + 3⟩] := addM_none hg
                    obtain ⟨R, hRR⟩ : ∃ R : RowC, R = (61, 0, L.map encMp ++ [AV.tup [.agg [.int .i64 c.v.ref, .int .i64 c.v.n], .so s2.row.length 0 1]]) := ⟨_, rfl⟩
                    have hat : ∀ n, (s3.put M R).at n = if n = M then some R else s3.at n := fun n => at_put (by omega) R n
                    have hall : ∀ n, n < s.row.length → n ≠ T → n ≠ M → (s3.put M R).at n = s.at n := fun n hn hnT hnM => by
                      rw [hat, if_neg hnM, c1 n (by omega), b1, if_neg hnM, a1 n hn hnT]
                    rw [← hRR]
                    refine ⟨by omega, by simp [h3], K, M, s.row.length + 1, addM L c (s.row.length + 3), rest ++ [(55, [.int .i64 c.id, .int .i64 2, .int .i64 c.v.n, .bool c.v.flag, .str c.v.text, .int .i64 c.v.ref]), (64, [.int .i64 c.v.ref, .int .i64 c.v.n])], by simp [h5], by simp [hadd], by simp [h33], by simp [h34], by simp, by simp [hs3, hs2, hs1], ?_, ?_, ?_, ?_, ?_⟩
                    · show (s3.put M R).at K = _
                      rw [hall K hKl (fun e => hTK e.symm) hKM, hK]
                    · show (s3.put M R).at M = _
                      rw [hat, if_pos rfl, hRR, hadd]
                      simp [encMp, encSp, key3, b3]
                    · show (s3.put M R).at (s.row.length + 1) = _
                      rw [hat, if_neg (by omega), c1 _ (by omega), b1, if_neg (by omega), a4, hadd]
                      simp [encSp, key3]
                    · show MRows _ _ (s3.put M R)
                      rw [hadd]
                      refine hR.app _ ?_ ?_ (by simp) (by simp) ?_ ?_
                      · rw [hat, if_neg (by simp; omega)]
                        simp [c2]
                      · simp
                        exact ⟨by omega, by omega⟩
                      · intro g' hg'
                        have hl' := at_lt (hR.1 g' hg').1
                        have hno := (hR.1 g' hg').2.1
                        exact hall _ hl' (fun e => hno (by simp [e])) (fun e => hno (by simp [e]))
                      · intro g' hg'
                        have hl' := at_lt (hR.1 g' hg').1
                        have hno := (hR.1 g' hg').2.1
                        simp at hno ⊢
                        exact ⟨hno.1, hno.2.1, by omega⟩
                    · rw [addM_F, hL, hsucF, hc1]
                      simp [groupsF]
                  · have hans : ansG L ⟨c.v.ref, c.v.n⟩ = .so g.row 0 g.ents.length := by unfold ansG; rw [hg]
                    have hgm := List.mem_of_getElem? hg
                    obtain ⟨r1, r2, r3⟩ := hR.1 g hgm
                    have hgl := at_lt r1
                    have hpos : (((g.ents.length : Nat) : Int) == 0) = false := by
                      have : g.ents.length ≠ 0 := fun e => r3 (List.eq_nil_of_length_eq_zero e)
                      simp; omega
                    have q0 : ¬ g.row = s.row.length := by omega
                    rw [hans]
                    simp [r1, hpos, h5]
                    obtain ⟨s1, hs1⟩ : ∃ s1 : St, s1 = St.new ⟨(26, [.sl 49 3 .ro (s0.map encSl)]) :: (30, [.so K 0 (valsF s0).length]) :: (rest ++ [(55, [.int .i64 c.id, .int .i64 2, .int .i64 c.v.n, .bool c.v.flag, .str c.v.text, .int .i64 c.v.ref]), (64, [.int .i64 c.v.ref, .int .i64 c.v.n])]), s.row⟩ none (3, 1, [.int .i64 c.id]) := ⟨_, rfl⟩
                    rw [← hs1]
                    have a1 : ∀ n, n < s.row.length → s1.at n = s.at n := fun n hn => by rw [hs1, at_new, if_neg (by simp; omega)]; simp
                    have a2 : s1.at s.row.length = some (3, 1, [.int .i64 c.id]) := by rw [hs1, at_new, if_pos rfl]
                    have a3 : s1.row.length = s.row.length + 1 := by rw [hs1, new_len]
                    have hM1 := a1 M hMl
                    rw [hM] at hM1
                    rw [entry_M_some ⟨c.v.ref, c.v.n⟩ hM1 hg]
                    have r1' := a1 g.row hgl
                    rw [r1] at r1'
                    simp [r1', a2]
                    have hge := hLe g hgm
                    rw [if_pos (by omega)]
                    simp [h5]
                    obtain ⟨s2, hs2⟩ : ∃ s2, s2 = s1.new (some g.row) (3, 1, List.map encI g.ents ++ [.int .i64 c.id]) := ⟨_, rfl⟩
                    rw [← hs2]
                    have c1 : ∀ n, n < s.row.length → n ≠ g.row → s2.at n = s.at n := fun n hn hne => by rw [hs2, at_new, if_neg (by omega), if_neg (fun e => hne (by injection e with e; exact e.symm)), a1 n hn]
                    have c2 : s2.at (s.row.length + 1) = some (3, 1, List.map encI g.ents ++ [.int .i64 c.id]) := by rw [hs2, at_new, if_pos (by omega)]
                    have c3 : s2.row.length = s.row.length + 2 := by rw [hs2, new_len]; omega
                    have hM2 := c1 M hMl (fun e => r2 (by simp [e]))
                    rw [hM] at hM2
                    have hkey := posG_key hg
                    have hkid : g.id = c.v.ref := congrArg SpotV.id hkey
                    have hkf : g.field = c.v.n := congrArg SpotV.field hkey
                    have hme : (L.map encMp)[posG L ⟨c.v.ref, c.v.n⟩]? = some (.tup [.agg [.int .i64 c.v.ref, .int .i64 c.v.n], .so g.row 0 g.ents.length]) := by
                      rw [List.getElem?_map, hg]
                      simp [encMp, encSp, key3, hkid, hkf]
                    rw [store_M hM2 hme]
                    simp
                    refine ⟨h35, ?_⟩
                    obtain ⟨kp, hkp⟩ := List.getElem?_eq_some_iff.1 hg
                    have hadd : addM L c (s.row.length + 1) = L.set (posG L ⟨c.v.ref, c.v.n⟩) ⟨c.v.ref, c.v.n, g.ents ++ [c.id], s.row.length + 1⟩ := addM_some (n := s.row.length + 1) hg
                    obtain ⟨R, hRR⟩ : ∃ R : RowC, R = (61, 0, (List.map encMp L).set (posG L ⟨c.v.ref, c.v.n⟩) (.tup [.agg [.int .i64 c.v.ref, .int .i64 c.v.n], .so s1.row.length 0 (g.ents.length + 1)])) := ⟨_, rfl⟩
                    have hKM : K ≠ M := fun e => by rw [e, hM] at hK; simp at hK
                    have hTM : T ≠ M := fun e => by rw [e, hM] at hT; simp at hT
                    have hgK : g.row ≠ K ∧ g.row ≠ M ∧ g.row ≠ T := by simpa using r2
                    have hat : ∀ n, (s2.put M R).at n = if n = M then some R else s2.at n := fun n => at_put (by omega) R n
                    rw [← hRR]
                    refine ⟨by omega, by simp [h3], K, M, T, addM L c (s.row.length + 1), rest ++ [(55, [.int .i64 c.id, .int .i64 2, .int .i64 c.v.n, .bool c.v.flag, .str c.v.text, .int .i64 c.v.ref]), (64, [.int .i64 c.v.ref, .int .i64 c.v.n])], by simp [h5], by simp [h6, hadd], by simp [h33], by simp [h34], by simp, by simp [hs2, hs1], ?_, ?_, ?_, ?_, ?_⟩
                    · show (s2.put M R).at K = _
                      rw [hat, if_neg hKM, c1 K hKl (fun e => hgK.1 e.symm), hK]
                    · show (s2.put M R).at M = _
                      rw [hat, if_pos rfl, hRR, hadd, List.map_set]
                      simp [encMp, encSp, key3, a3]
                    · show (s2.put M R).at T = _
                      rw [hat, if_neg hTM, c1 T hTl (fun e => hgK.2.2 e.symm), hT, hadd, List.map_set]
                      have e : (L.map key3).set (posG L ⟨c.v.ref, c.v.n⟩) (key3 ⟨c.v.ref, c.v.n, g.ents ++ [c.id], s.row.length + 1⟩) = L.map key3 := by
                        apply List.ext_getElem?
                        intro k
                        rw [List.getElem?_set]
                        split
                        · rename_i e
                          subst e
                          rw [List.getElem?_map, hg, if_pos (by simpa using kp)]
                          simp [key3, hkid, hkf]
                        · rfl
                      exact congrArg (fun z => some (64, 2, z.map encSp)) e.symm
                    · show MRows _ _ (s2.put M R)
                      rw [hadd]
                      refine hR.set kp _ ?_ ?_ (by simp) (by simp) ?_ (fun g' hg' => (hR.1 g' hg').2.1)
                      · rw [hat, if_neg (by simp; omega)]
                        simp [c2]
                      · simp
                        exact ⟨by omega, by omega, by omega⟩
                      · intro g' hg' hne
                        rw [hkp] at hne
                        have hl' := at_lt (hR.1 g' hg').1
                        have hno := (hR.1 g' hg').2.1
                        rw [hat, if_neg (fun e => hno (by simp [e])), c1 _ hl' hne]
                    · rw [addM_F, hL, hsucF, hc1]
                      simp [groupsF]
          · have b1' : (c.field != 2) = true := by simp [b1]
            have hc0 : crowdB c = false := by simp [crowdB, b1]
            simp [b1']
            exact ⟨h35, VCI.skip h (by rw [← hc]; exact hc0) hV (by simp) (by simp) (by simp) (by simp) (by simp) (by simp) rfl ⟨_, by rw [hb]; rfl⟩⟩
        · rintro F s ⟨h35, hV⟩
          simp [h35, hw]
          refine .here ⟨⟨i + 1, hV _ rfl⟩, ?_⟩
          simp [AV.num]; omega
      · have : i = (modelF s0).length := by omega
        subst this
        exact ⟨hi, h3, K, M, T, L, rest, by simp [h5], h6, h33, h34, h35, hb, hK, hM, hT, hR, hL⟩
    · rintro F s ⟨hi, h3, K, M, T, L, rest, h5, h6, h33, h34, h35, hb, hK, hM, hT, hR, hL⟩
      rw [List.take_length] at hL
      have hKl := at_lt hK
      have hMl := at_lt hM
      have hTl := at_lt hT
      have hKM : K ≠ M := fun e => by rw [e, hM] at hK; simp at hK
      have hTM : T ≠ M := fun e => by rw [e, hM] at hT; simp at hT
      have hTK : T ≠ K := fun e => by rw [e, hK] at hT; simp at hT
      have hfl : ((modelF s0).filter crowdB).length ≤ (modelF s0).length := List.length_filter_le _ _
      have hLl : L.length ≤ (modelF s0).length := by
        have := groupsF_len ((modelF s0).filter crowdB)
        rw [← hL, List.length_map] at this
        omega
      have hLe : ∀ g ∈ L, g.ents.length ≤ (modelF s0).length ∧ g.ents.Pairwise (· < ·) := fun g hg => by
        have hm : g2 g ∈ groupsF ((modelF s0).filter crowdB) := by rw [← hL]; exact List.mem_map_of_mem hg
        have := groupsF_ents _ hm
        refine ⟨Nat.le_trans this hfl, ?_⟩
        have := (ents_eq (modelF s0)).1 _ hm
        show (g2 g).ents.Pairwise _
        rw [this]
        exact ents_sorted hso _
      rw [run_seq]
      simp [-run_seq, h6]
      refine callW_of (by simp) ?_
      simp [-run_seq, h6]
      refine (SortSpot_sound hT (by simp; omega) (by simp)).run ?_
      rintro s1 y ⟨rfl, l', hp, hs, rfl⟩
      have hpl : l'.length = L.length := by have := hp.length_eq; simpa using this
      have hat : ∀ n, (s.put T (64, 2, l'.map encSp)).at n = if n = T then some (64, 2, l'.map encSp) else s.at n := fun n => at_put hTl _ n
      simp [-run_seq, h6]
      rw [run_seq]
      refine run_cut (fun F s => VSI s0 L l' l'.length F s) ?_ ?_
      · simp [h6, hat]
        refine run_loop (fun F s => ∃ i, VSI s0 L l' i F s) (fun F _ => l'.length - (F 90).num) (.here ⟨0, by omega, by simp [h3], by simp, K, M, T, rest, by simp [h5], by simp [hpl], by simp [hpl], by simp [hb, selF], ?_, ?_, ?_, ?_⟩) ?_
        · rw [hat, if_neg (fun e => hTK e.symm), hK]; simp [selF]
        · rw [hat, if_neg (fun e => hTM e.symm), hM]
        · rw [hat, if_pos rfl]
        · exact hR.mono (fun g hg => by rw [hat, if_neg (fun e => (hR.1 g hg).2.1 (by simp [e]))]) (fun g hg => (hR.1 g hg).2.1)
        rintro F s ⟨i, hi, h3, h90, K, M, T, rest, h5, h88, h89, hb, hK, hM, hT, hR⟩
        have hKl := at_lt hK
        have hMl := at_lt hM
        have hTl := at_lt hT
        simp [-run_block, h89, h90]
        refine condR_mk (fun h => ?_) (fun h => ?_) <;> simp at h <;> simp [-run_block, h89, h90]
        · have hw := wrap_suc i (by omega)
          refine run_cut (fun F s => F 90 = .int .i64 i ∧ ∀ j, j = i + 1 → VSI s0 L l' j (upd F 90 (.int .i64 j)) s) ?_ ?_
          · simp [h, h5, h88, h90, hb, hT]
            rw [look_M ⟨l'[i].id, l'[i].field⟩ hM]
            obtain ⟨p, hpp⟩ : ∃ p, p = l'[i] := ⟨_, rfl⟩
            have hpm : p ∈ L.map key3 := hp.mem_iff.1 (by rw [hpp]; exact List.getElem_mem h)
            obtain ⟨g, hg⟩ := posG_mem (List.mem_map.1 hpm)
            have hkey := posG_key hg
            have hkid : g.id = p.id := congrArg SpotV.id hkey
            have hkf : g.field = p.field := congrArg SpotV.field hkey
            have hans : ansG L ⟨p.id, p.field⟩ = .so g.row 0 g.ents.length := by
              unfold ansG
              rw [show (⟨p.id, p.field⟩ : SpotV) = p from rfl, hg]
            have hgm := List.mem_of_getElem? hg
            obtain ⟨r1, r2, r3⟩ := hR.1 g hgm
            have hgl := at_lt r1
            have hge := hLe g hgm
            have hsuc := selF_suc L l' i h
            rw [← hpp] at hsuc
            rw [← hpp, hans]
            simp [r1]
            refine condR_mk (fun q => ?_) (fun q => ?_) <;> simp at q <;> simp
            · have hone : selOne L p = some g := by unfold selOne; rw [hg]; simp; omega
              rw [hone] at hsuc
              refine callW_of (by simp) ?_
              simp
              refine (SortInt_same (n := g.row) (l := g.ents) ?_ (by omega) hge.2).run ?_
              · exact r1
              rintro s1 y ⟨rfl, rfl⟩
              have hTK : T ≠ K := fun e => by rw [e, hK] at hT; simp at hT
              have hKM : K ≠ M := fun e => by rw [e, hM] at hK; simp at hK
              have q0 : ¬ K = s.row.length := by omega
              have hsl := selF_len L (l'.take i)
              have hsl' : (selF L (l'.take i)).length ≤ i := by simp at hsl; omega
              simp [hb, h3, hK, q0, r1]
              rw [if_pos (by omega)]
              simp [hb, h3, hK, q0, r1]
              have keep : ∀ n, n < s.row.length → n ≠ K → ∀ (b : List (Nat × List AV)) (x y : RowC), (St.new (St.new ⟨b, s.row⟩ none x) (some K) y).at n = s.at n := fun n hn hne b x y => by
                have e1 : ¬ n = s.row.length := by omega
                have e2 : ¬ n = s.row.length + 1 := by omega
                have e3 : ¬ K = n := fun e => hne e.symm
                simp [at_new, e1, e2, e3]
              refine ⟨h90, by omega, by simp [h3], by simp, s.row.length + 1, M, T, rest ++ [(64, [.int .i64 p.id, .int .i64 p.field])], by simp [h5], by simp [h88], by simp [h89], by rw [hsuc]; simp; omega, ?_, ?_, ?_, ?_⟩
              · rw [hsuc]
                simp [encG3, hkid, hkf]
              · exact (keep M hMl (fun e => hKM e.symm) _ _ _).trans hM
              · exact (keep T hTl hTK _ _ _).trans hT
              · refine hR.mono (fun g hg => ?_) (fun g hg => ?_)
                · exact keep g.row (at_lt (hR.1 g hg).1) (fun e => (hR.1 g hg).2.1 (by simp [e])) _ _ _
                · have := at_lt (hR.1 g hg).1
                  have hno := (hR.1 g hg).2.1
                  simp at hno ⊢
                  exact ⟨by omega, hno.2⟩
            · have hone : selOne L p = none := by unfold selOne; rw [hg]; simp; omega
              rw [hone] at hsuc
              refine ⟨h90, by omega, by simp [h3], by simp, K, M, T, rest ++ [(64, [.int .i64 p.id, .int .i64 p.field])], by simp [h5], by simp [h88], by simp [h89], by rw [hsuc]; simp, ?_, hM, hT, hR⟩
              rw [hsuc]
              simpa using hK
          · rintro F s ⟨h90, hV⟩
            simp [h90, hw]
            refine .here ⟨⟨i + 1, hV _ rfl⟩, ?_⟩
            simp [AV.num]; omega
        · have : i = l'.length := by omega
          subst this
          exact ⟨hi, h3, h90, K, M, T, rest, h5, h88, h89, hb, hK, hM, hT, hR⟩
      · rintro F s ⟨hi, h3, h90, K, M, T, rest, h5, h88, h89, hb, hK, hM, hT, hR⟩
        rw [List.take_length] at hb hK
        simp [h3, hb, hK]
        have e : AV.retL (Ret.deep some (fun _ => none) s (some .fz) 5) ((selF L l').map encG3) = _ := retL_G3 s 4 _ fun g hg => (hR.1 g (selF_mem hg)).1
        rw [retL_Gf, e]
        refine leL_append _ _ _ _ (leL_maps _ fun r hr => le_Gf r ?_) (sel_crowds (sel_eq hL hp hs))
        unfold valsF at hr
        obtain ⟨x, _, rfl⟩ := List.mem_map.1 hr
        rfl
end Go.Proofs.YtmcfgljdpjalfaaV
