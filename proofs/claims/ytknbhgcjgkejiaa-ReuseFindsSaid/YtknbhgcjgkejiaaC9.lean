/- Contracts: values, Add. -/
import Derived.Test.YtknbhgcjgkejiaaC7
import Derived.Test.YtknbhgcjgkejiaaC8
set_option linter.unusedVariables false
set_option linter.unusedSimpArgs false
set_option linter.constructorNameAsVariable false
namespace Go.Proofs.YtknbhgcjgkejiaaV
open Go.RowKit Go.Proofs
attribute [local simp ↓] run_nil run_seq run_skip run_region run_draw run_cond run_block run_exit run_ret run_b run_l run_k rexit_c rexit_l rexit_k rexit_b rops_nil rplan_nil rops_cons rops_guard rplan_cons rplan_two condR_true condR_false
attribute [local simp] planR_some planR_guard rrest_o rrest_p gS_some gR_tt gR_ff gR_ft gR_tf gR_tup valP_some valP_none valE_some valE_none valS_some opR_move opR_assign opR_pick opR_binOp opR_unOp opR_convert opR_convertl opR_extract opR_field opR_fieldAddr opR_indexAddr opR_index opR_slice opR_makeFunc opR_build opR_load opR_loadl opR_p opR_store opR_alloc opR_box opR_buildSlice opR_makeSlice opR_allocc opR_boxc opR_buildSlicec opR_makeSlicec opR_len opR_append opR_clear opR_call opR_callc
attribute [local simp] evP boxAV allocAV okCells_agg okCells_sl okCells_so okCells_int okCells_bool okCells_str okCells_nilp okCells_nilfn okCells_ptr okCells_fn okCells_ub loadAV loadEl storeAV storeEl partAV partAV0 fieldAV fieldAddrAV indexAddrAV indexAV lenAV sliceAV boundAV fieldAt? elemOf? kindOf look cst updO upd dstOk binAV_int binAV_str binAV_bool binAV_fn binAV_nilfn binAV_agg binAV_sl eqUb binInt binStr isShift shiftInt unAV convAV bytesAV bytesOf clearAV TD.agg RetQ resAV resAVs resAV1 F0 AV.ret AV.retL St.empty fnOf_fn gslot buildAV fillAV placesAV buildSliceAV makeSliceAV appendAV appRow_so appRow_nil listAV_sl listAV_so cutL fillE zeroElem? addRows_nil le_refl leL_refl le_agg le_tup le_int le_bool le_str le_sl leL_nil leL_cons conv0 conv_tk arg_tk res_tk fzn_tk fzn_so fzn_elo fzn_ptr res_so deep_tk tkArg_ro tkArg_fz tkArg_nil tkRes_ro tkRes_nil tkRes_fz conv_so arg_so deepc_so deepa_so at_new at_nil at_box live_at' new_len new_box put_len put_box retL_append retL_take retL_drop retL_set retL_replicate at_fzn fzn_len
attribute [local simp] encV encR encA encI eqV10 eqOp retL_V retL_A retL_I retL_R_conv retL_R_arg retL_R_res retL_R_fzn retL_R_dc retL_R_da T_int T_bool T_u8 T_string T_Value T_fnVal T_Draws T_Records T_Alt T_Alts T_ints T_Region T_Values T_Record T_Draw T_RecordLists T_fnRec T_fnRecB T_uint T_bytes
theorem if_whole {X z : List AV} {n : Nat} : (if n + z.length ≤ n then X ++ z else X) = X := by
  split
  · have : z = [] := List.eq_nil_of_length_eq_zero (by omega)
    rw [this, List.append_nil]
  · rfl
/-- The values of the first i alternatives. -/
def altsV (l : List AltV) (i : Nat) : List Val := (l.map (·.v)).take i
theorem values_pure (l : List AltV) (hl : l.length < 1000000000) : Pure Try.prog 30 [.sl 36 5 .ro (l.map encA)] [] (.sl 23 4 .ro ((fromF l).map encV)) := by
  refine Pure.of_run hmix Try.func30 (by kernel_rfl) rfl ⟨Try.ntmps30, by simp⟩ ?_
  simp
  refine run_loop (fun F s => ∃ i : Nat, i ≤ l.length ∧ F 6 = .sl 36 5 .ro (l.map encA) ∧ F 7 = .int .i64 l.length ∧ F 8 = .int .i64 i ∧ ∃ K, F 3 = .so K 0 i ∧ s.at K = some (23, 4, (altsV l i).map encV)) (fun F _ => l.length - (F 8).num)
    (.by (Weak.adopt (i := 3) (by simp; exact ⟨rfl, rfl, rfl⟩) 23 4 (by omega)) (.here ⟨0, by simp [altsV]⟩)) ?_
  rintro F s ⟨i, hi, h6, h7, h8, K, h3, hK⟩
  have hKl := at_lt hK
  obtain ⟨o, ho⟩ : ∃ o, o = altsV l i := ⟨_, rfl⟩
  have hol : o.length = i := by rw [ho]; simp [altsV]; omega
  rw [← ho] at hK
  simp [h6, h7, h8, h3, hK]
  refine condR_mk (fun h => ?_) (fun h => ?_) <;> simp at h <;> simp [h6, h7, h8, h3, hK]
  · have q0 : ¬ K = s.row.length := by omega
    have q1 : ¬ s.row.length = K := by omega
    have hws := wrap_suc i (by omega)
    simp [h6, h7, h8, h3, hK, h, q0, q1, hws, hol]
    rw [if_pos (by omega)]
    simp [h6, h7, h8, h3, hK, h, q0, q1, hws, hol]
    have e : altsV l (i + 1) = o ++ [l[i].v] := by
      unfold altsV
      rw [List.take_succ_eq_append_getElem (by simpa using h), ho]
      simp [altsV]
    refine .here ⟨⟨i + 1, by omega, h6, h7, rfl, s.row.length + 1, by simp, ?_⟩, ?_⟩
    · rw [e]; simp
    · simp [AV.num]; omega
  · have : i = l.length := by omega
    subst this
    have ho' : o = l.map (·.v) := by rw [ho]; unfold altsV; rw [List.take_of_length_le (by simp)]
    refine callW_of (by simp) ?_
    simp [h3]
    rw [← hol]
    refine (SortVal_sound hK (by omega)).run ?_
    rintro s1 y ⟨rfl, l', hp, hs, rfl⟩
    simp
    refine callW_of (by simp) ?_
    simp [h3]
    have hl' : l'.length = o.length := hp.length_eq
    rw [← hol, ← hl']
    refine (Compact_sound (at_put_self hK _) (by omega)).run ?_
    rintro s2 y ⟨rfl, z, rfl⟩
    have e := sort_cpt cmp_v hp hs
    have hat : ∀ r, (s.put K r).at K = some r := fun r => at_put_self hK r
    have e2 : fromF l = insAll vcmp [] o := by rw [ho']; rfl
    rw [put_put]
    simp [hat]
    rw [if_whole, e, ← e2]
    simp
/-- Add's outer loop: q lists are done. -/
def AddO (a b : List Rec) (F : Fr) (s : St) : Prop :=
  ∃ (q : Nat) (o : List Rec) (K : Nat), q ≤ 2 ∧ F 12 = .so 0 0 2 ∧ F 13 = .int .i64 2 ∧ F 14 = .int .i64 q ∧ F 5 = .so K 0 o.length ∧ 0 < K ∧ s.at 0 = some (28, 1, [.sl 43 7 .ro (a.map encR), .sl 43 7 .ro (b.map encR)]) ∧ s.at K = some (43, 7, o.map encR) ∧
    o = (if q = 0 then [] else if q = 1 then a else a ++ b)
/-- Its inner loop: j records of x are added to pre. -/
def AddI (a b pre x : List Rec) (q : Nat) (F : Fr) (s : St) : Prop :=
  ∃ (j K : Nat), j ≤ x.length ∧ F 12 = .so 0 0 2 ∧ F 13 = .int .i64 2 ∧ F 14 = .int .i64 q ∧ F 18 = .sl 43 7 .ro (x.map encR) ∧ F 19 = .int .i64 x.length ∧ F 20 = .int .i64 j ∧ F 5 = .so K 0 (pre ++ x.take j).length ∧ 0 < K ∧
    s.at 0 = some (28, 1, [.sl 43 7 .ro (a.map encR), .sl 43 7 .ro (b.map encR)]) ∧ s.at K = some (43, 7, (pre ++ x.take j).map encR)
theorem Add_fz (a b : List Rec) (hl : a.length + b.length < 1000000000) (ha : ∀ r ∈ a, okR r) (hb : ∀ r ∈ b, okR r) : Pure Try.prog 10 [.sl 43 7 .ro (a.map encR), .sl 43 7 .ro (b.map encR)] [] (.sl 43 7 .fz ((insAll rcmp [] (a ++ b)).map encR)) := by
  refine Pure.of_run hmix Try.func10 (by kernel_rfl) rfl ⟨Try.ntmps10, by simp⟩ ?_
  simp
  refine run_loop (AddO a b) (fun F _ => 2 - (F 14).num)
    (.by (Weak.adopt (i := 5) (by simp; exact ⟨rfl, rfl, rfl⟩) 43 7 (by omega)) (.here ⟨0, [], 1, by omega, by simp, by simp, by simp, by simp, by omega, by simp, by simp, by simp⟩)) ?_
  rintro F s ⟨q, o, K, hq, h12, h13, h14, h5, hK0, hs0, hK, ho⟩
  have hKl := at_lt hK
  simp [h12, h13, h14, h5, hs0]
  refine condR_mk (fun h => ?_) (fun h => ?_) <;> simp at h <;> simp [h12, h13, h14, h5, hs0]
  · -- one list
    have hx : ∃ x, ([.sl 43 7 .ro (a.map encR), .sl 43 7 .ro (b.map encR)] : List AV)[q]? = some (.sl 43 7 .ro (x.map encR)) ∧ x.length ≤ 999999999 - o.length ∧ o.length ≤ 999999999 ∧ (∀ r ∈ x, okR r) ∧ o ++ x = (if q + 1 = 1 then a else a ++ b) := by
      have : q = 0 ∨ q = 1 := by omega
      rcases this with rfl | rfl
      · refine ⟨a, rfl, ?_, ?_, ha, ?_⟩ <;> rw [ho] <;> simp <;> omega
      · refine ⟨b, rfl, ?_, ?_, hb, ?_⟩ <;> rw [ho] <;> simp <;> omega
    obtain ⟨x, hx, hxl, hol, hxo, hox⟩ := hx
    have hq2 : (q : Int) < 2 := by omega
    simp [h12, h13, h14, h5, hs0, hx, h, hq2]
    refine run_loop (AddI a b o x q) (fun F _ => x.length - (F 20).num) (.here ⟨0, K, by omega, by simp [h12], by simp [h13], by simp [h14], by simp, by simp, by simp, by simp [h5], hK0, hs0, by simpa using hK⟩) ?_
    clear h12 h13 h14 h5 hs0 hK hKl hK0
    rintro F s ⟨j, K, hj, h12, h13, h14, h18, h19, h20, h5, hK0, hs0, hK⟩
    obtain ⟨p, hp⟩ : ∃ p, p = o ++ x.take j := ⟨_, rfl⟩
    have hpl : p.length = o.length + j := by rw [hp]; simp; omega
    rw [← hp] at h5 hK
    have hKl := at_lt hK
    simp [h12, h13, h14, h18, h19, h20, h5]
    refine condR_mk (fun g => ?_) (fun g => ?_) <;> simp at g <;> simp [h12, h13, h14, h18, h19, h20, h5]
    · simp [g, h12, h13, h14, h18, h19, h20, h5]
      refine callW_of (by simp) ?_
      simp [g, h12, h13, h14, h18, h19, h20, h5]
      refine (Clone_pure x[j].src (hxo _ (List.getElem_mem g))).run true (by simp [g, h12, h13, h14, h18, h19, h20, h5]) ?_
      simp [g, h12, h13, h14, h18, h19, h20, h5]
      have q0 : ¬ K = s.row.length := by omega
      have q1 : ¬ s.row.length = K := by omega
      have hws := wrap_suc j (by omega)
      simp [hK, q0, q1, g, h12, h13, h14, h18, h19, h20, h5]
      rw [if_pos (by omega)]
      simp [hws, hK, q0, q1, g, h12, h13, h14, h18, h19, h20, h5]
      have e : o ++ x.take (j + 1) = p ++ [x[j]] := by rw [List.take_succ_eq_append_getElem g, hp, List.append_assoc]
      have z0 : ¬ 0 = s.row.length := by omega
      have z1 : ¬ K = 0 := by omega
      refine .here ⟨⟨j + 1, s.row.length + 1, by omega, by simp [h12], by simp [h13], by simp [h14], by simp [h18], by simp [h19], by simp, ?_, by omega, ?_, ?_⟩, ?_⟩
      · rw [e]; simp
      · simp [z0, z1, hs0]
      · rw [e]; simp
      · simp [AV.num]; omega
    · have : j = x.length := by omega
      subst this
      rw [List.take_length] at hp
      have hws := wrap_suc q (by omega)
      simp [hws, h12, h13, h14, h18, h19, h20, h5]
      refine .here ⟨⟨q + 1, p, K, by omega, by simp [h12], by simp [h13], by simp, by simp [h5], hK0, hs0, hK, ?_⟩, ?_⟩
      · rw [hp, hox]; simp
      · simp [AV.num]; omega
  · have : q = 2 := by omega
    subst this
    have ho' : o = a ++ b := by rw [ho]; rfl
    have hok : okL o := ⟨by rw [ho']; simp; omega, fun r hr => by rw [ho'] at hr; rcases List.mem_append.1 hr with h | h; exact ha r h; exact hb r h⟩
    refine callW_of (by simp) ?_
    simp [h5]
    refine (SortRec_sound hK hok).run ?_
    rintro s1 y ⟨rfl, l', hp, hs, rfl⟩
    simp
    refine callW_of (by simp) ?_
    simp [h5]
    have hl' : l'.length = o.length := hp.length_eq
    rw [← hl']
    refine (CompactFunc_sound (at_put_self hK _) ⟨by rw [hl']; exact hok.1, fun r hr => hok.2 r (hp.mem_iff.1 hr)⟩).run ?_
    rintro s2 y ⟨rfl, z, rfl⟩
    have e := sort_cpt cmp_r hp hs
    have hat : ∀ r, (s.put K r).at K = some r := fun r => at_put_self hK r
    rw [put_put]
    simp [hat]
    rw [if_whole, e, ho']
    simp
theorem Add_pure (a b : List Rec) (hl : a.length + b.length < 1000000000) (ha : ∀ r ∈ a, okR r) (hb : ∀ r ∈ b, okR r) : Pure Try.prog 10 [.sl 43 7 .ro (a.map encR), .sl 43 7 .ro (b.map encR)] [] (.sl 43 7 .ro ((insAll rcmp [] (a ++ b)).map encR)) :=
  (Add_fz a b hl ha hb).le (by simp [-encR])
end Go.Proofs.YtknbhgcjgkejiaaV
