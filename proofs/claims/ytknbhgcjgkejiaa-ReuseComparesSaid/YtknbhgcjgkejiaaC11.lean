/- Contracts: Find. -/
import Derived.Test.YtknbhgcjgkejiaaC10
set_option linter.unusedVariables false
set_option linter.unusedSimpArgs false
set_option linter.constructorNameAsVariable false
namespace Go.Proofs.YtknbhgcjgkejiaaV
open Go.RowKit Go.Proofs
structure Reg where
  kind : Int
  id : Int
  field : Int
  alts : List AltV
  ents : List Int
def encG (r : Reg) : AV := .agg [.int .i64 r.kind, .int .i64 r.id, .int .i64 r.field, .sl 36 5 .ro (r.alts.map encA), .sl 3 1 .ro (r.ents.map encI)]
def zeroVal : Val := ⟨0, false, ⟨#[]⟩, 0⟩
def findGo (hit : Rec → Bool) : List Rec → Val → Bool → Val × Bool
  | [], v, f => (v, f)
  | x :: l, v, f => if hit x = true then (if f = true ∧ ¬ v = x.to then (zeroVal, false) else findGo hit l x.to true) else findGo hit l v f
def hit (r : Reg) (x : Rec) : Bool := decide (x.id = r.id) && (decide (x.field = r.field) && decide (x.src = fromF r.alts))
/-- What a region was resolved to. -/
def findF (l : List Rec) (r : Reg) : Val × Bool := if r.kind = 1 then findGo (hit r) l zeroVal false else (zeroVal, false)
attribute [local simp ↓] run_nil run_seq run_skip run_region run_draw run_cond run_block run_exit run_ret run_b run_l run_k rexit_c rexit_l rexit_k rexit_b rops_nil rplan_nil rops_cons rops_guard rplan_cons rplan_two condR_true condR_false
attribute [local simp] planR_some planR_guard rrest_o rrest_p gS_some gR_tt gR_ff gR_ft gR_tf gR_tup valP_some valP_none valE_some valE_none valS_some opR_move opR_assign opR_pick opR_binOp opR_unOp opR_convert opR_convertl opR_extract opR_field opR_fieldAddr opR_indexAddr opR_index opR_slice opR_makeFunc opR_build opR_load opR_loadl opR_p opR_store opR_alloc opR_box opR_buildSlice opR_makeSlice opR_allocc opR_boxc opR_buildSlicec opR_makeSlicec opR_len opR_append opR_clear opR_call opR_callc
attribute [local simp] evP boxAV allocAV okCells_agg okCells_sl okCells_so okCells_int okCells_bool okCells_str okCells_nilp okCells_nilfn okCells_ptr okCells_fn okCells_ub loadAV loadEl storeAV storeEl partAV partAV0 fieldAV fieldAddrAV indexAddrAV indexAV lenAV sliceAV boundAV fieldAt? elemOf? kindOf look cst updO upd dstOk binAV_int binAV_str binAV_bool binAV_fn binAV_nilfn binAV_agg binAV_sl eqUb binInt binStr isShift shiftInt unAV convAV bytesAV bytesOf clearAV TD.agg RetQ resAV resAVs resAV1 F0 AV.ret AV.retL St.empty fnOf_fn gslot buildAV fillAV placesAV buildSliceAV makeSliceAV appendAV appRow_so appRow_nil listAV_sl listAV_so cutL fillE zeroElem? addRows_nil le_refl leL_refl le_agg le_tup le_int le_bool le_str le_sl leL_nil leL_cons conv0 conv_tk arg_tk res_tk fzn_tk fzn_so fzn_elo fzn_ptr res_so deep_tk tkArg_ro tkArg_fz tkArg_nil tkRes_ro tkRes_nil tkRes_fz conv_so arg_so deepc_so deepa_so at_new at_nil at_box live_at' new_len new_box put_len put_box retL_append retL_take retL_drop retL_set retL_replicate at_fzn fzn_len
attribute [local simp] encV encR encA encI encD encG eqV10 eqOp retL_V retL_A retL_I retL_D retL_R_conv retL_R_arg retL_R_res retL_R_fzn retL_R_dc retL_R_da T_int T_bool T_u8 T_string T_Value T_fnVal T_Draws T_Records T_Alt T_Alts T_ints T_Region T_Values T_Record T_Draw T_RecordLists T_fnRec T_fnRecB T_uint T_bytes
/-- The loop's state: i records are seen (slots: to, found, from, records, their number, i). -/
def FindI (l : List Rec) (r : Reg) (hf : Rec → Bool) (p q c n i' : Nat) (F : Fr) (s : St) : Prop :=
  ∃ (i : Nat) (v : Val) (f : Bool) (rest : List (Nat × List AV)), i ≤ l.length ∧ F i' = .int .i64 i ∧
  s.box = (40, [.int .i64 r.kind, .int .i64 r.id, .int .i64 r.field, .sl 36 5 .ro (r.alts.map encA), .sl 3 1 .ro (r.ents.map encI)]) :: (23, [.int .i64 0, .bool false, .str ⟨#[]⟩, .int .i64 0]) :: (23, [.int .i64 v.n, .bool v.flag, .str v.text, .int .i64 v.ref]) :: rest ∧
  F 3 = .ptr 0 0 ∧ F 4 = .ptr 1 0 ∧ F p = .ptr 2 0 ∧ F q = .bool f ∧ F c = .sl 23 4 .ro ((fromF r.alts).map encV) ∧ F n = .sl 43 7 .ro (l.map encR) ∧ findGo hf (l.drop i) v f = findGo hf l zeroVal false
theorem Find_pure (l : List Rec) (r : Reg) (hl : l.length < 1000000000) (ho : ∀ x ∈ l, okR x) (ha : r.alts.length < 1000000000) : Pure Try.prog 16 [.sl 43 7 .ro (l.map encR), encG r] [] (.tup [encV (findF l r).1, .bool (findF l r).2]) := by
  refine Pure.of_run hmix Try.func16 (by kernel_rfl) rfl ⟨Try.ntmps16, by simp⟩ ?_
  simp
  refine condR_mk (fun h => ?_) (fun h => ?_) <;> simp at h <;> simp
  · simp [findF, h, zeroVal]
  · refine callW_of (by simp) ?_
    simp
    refine (values_pure r.alts ha).run true (by simp) ?_
    simp
    refine run_loop (fun F s => F 19 = .int .i64 l.length ∧ FindI l r (hit r) 7 8 6 18 20 F s) (fun F _ => l.length - (F 20).num) (.here ⟨by simp, 0, zeroVal, false, [], by omega, by simp, by simp [zeroVal], by simp, by simp, by simp, by simp, by simp, by simp, by simp⟩) ?_
    rintro F s ⟨h19, i, v, f, rest, hi, h20, hs, h3, h4, h7, h8, h6, h18, hg⟩
    simp [h3, h4, h7, h8, h6, h18, h19, h20]
    refine condR_mk (fun g => ?_) (fun g => ?_) <;> simp at g <;> simp [h3, h4, h7, h8, h6, h18, h19, h20]
    · have hws := wrap_suc i (by omega)
      rw [List.drop_eq_getElem_cons g] at hg
      have no : hit r l[i] = false → findGo (hit r) (l.drop (i + 1)) v f = findGo (hit r) l zeroVal false := fun hh => by
        rw [← hg]; simp [findGo, hh]
      simp [g, hs, h3, h4, h7, h8, h6, h18, h19, h20]
      refine gR_mk (fun g1 => ?_) (fun g1 => ?_) <;> simp [g1, g, hs, h3, h4, h7, h8, h6, h18, h19, h20, hws]
      · refine .here ⟨⟨by simp [h19], i + 1, v, f, _, by omega, by simp, rfl, by simp [h3], by simp [h4], by simp [h7], by simp [h8], by simp [h6], by simp [h18], no (by simp at g1; simp [hit, g1])⟩, ?_⟩
        simp [AV.num]; omega
      · refine gR_mk (fun g2 => ?_) (fun g2 => ?_) <;> simp [g1, g2, g, hs, h3, h4, h7, h8, h6, h18, h19, h20, hws]
        · refine .here ⟨⟨by simp [h19], i + 1, v, f, _, by omega, by simp, rfl, by simp [h3], by simp [h4], by simp [h7], by simp [h8], by simp [h6], by simp [h18], no (by simp at g2; simp [hit, g2])⟩, ?_⟩
          simp [AV.num]; omega
        · refine callW_of (by simp) ?_
          simp [g1, g2, g, hs, h3, h4, h7, h8, h6, h18, h19, h20, hws]
          refine (Equal_pure l[i].src (fromF r.alts) (by have := ho _ (List.getElem_mem g); unfold okR at this; omega)).run true (by simp [g1, g2, g, hs, h3, h4, h7, h8, h6, h18, h19, h20, hws]) ?_
          simp [g1, g2, g, hs, h3, h4, h7, h8, h6, h18, h19, h20, hws]
          refine condR_mk (fun g3 => ?_) (fun g3 => ?_) <;> simp at g3 <;> simp [g, hs, h3, h4, h7, h8, h6, h18, h19, h20, hws]
          · refine .here ⟨⟨by simp [h19], i + 1, v, f, _, by omega, by simp, rfl, by simp [h3], by simp [h4], by simp [h7], by simp [h8], by simp [h6], by simp [h18], no (by simp [hit, g3])⟩, ?_⟩
            simp [AV.num]; omega
          · have yes : hit r l[i] = true := by simp at g1 g2; simp [hit, g1, g2, g3]
            simp only [findGo, yes, if_true] at hg
            have hF : findF l r = findGo (hit r) l zeroVal false := by simp [findF, h]
            refine gR_mk (fun g4 => ?_) (fun g4 => ?_) <;> simp [g4, g, hs, h3, h4, h7, h8, h6, h18, h19, h20, hws]
            · refine condR_mk (fun g5 => ?_) (fun g5 => ?_) <;> simp at g5 <;> simp [g5, g, hs, h3, h4, h7, h8, h6, h18, h19, h20, hws]
              · rw [if_pos ⟨g4, fun e => g5 e.symm⟩] at hg
                rw [hF, ← hg]
                simp [zeroVal]
              · rw [if_neg (fun e => e.2 g5.symm)] at hg
                refine .here ⟨⟨by simp [h19], i + 1, l[i].to, true, _, by omega, by simp, by simp [g5]; rfl, by simp [h3], by simp [h4], by simp [h7], by simp, by simp [h6], by simp [h18], hg⟩, ?_⟩
                simp [AV.num]; omega
            · rw [if_neg (by rw [g4]; simp)] at hg
              refine .here ⟨⟨by simp [h19], i + 1, l[i].to, true, _, by omega, by simp, rfl, by simp [h3], by simp [h4], by simp [h7], by simp, by simp [h6], by simp [h18], hg⟩, ?_⟩
              simp [AV.num]; omega
    · have : i = l.length := by omega
      subst this
      rw [List.drop_length] at hg
      simp [findGo] at hg
      simp [hs, h3, h4, h7, h8, h6, h18, h19, h20, findF, h, ← hg]
theorem findGo_none : ∀ (l : List Rec) (v : Val) (f : Bool), findGo (fun _ => false) l v f = (v, f)
  | [], _, _ => rfl
  | _ :: l, v, f => by simp [findGo, findGo_none l v f]
theorem rFind_pure (l : List Rec) (r : Reg) (hl : l.length < 1000000000) (ho : ∀ x ∈ l, okR x) (ha : r.alts.length < 1000000000) : Pure Try.prog 17 [.sl 43 7 .ro (l.map encR), encG r] [] (.tup [encV (findF l r).1, .bool (findF l r).2]) := by
  refine Pure.of_run hmix Try.func17 (by kernel_rfl) rfl ⟨Try.ntmps17, by simp⟩ ?_
  simp
  refine callW_of (by simp) ?_
  simp
  refine (From_pure r.alts ha).run true (by simp) ?_
  simp
  have hh : ∃ hit' : Rec → Bool, (∀ x, hit' x = (decide (r.kind = 1) && hit r x)) ∧ findGo hit' l zeroVal false = findF l r := by
    by_cases hk : r.kind = 1
    · exact ⟨hit r, fun x => by simp [hk], by simp [findF, hk]⟩
    · exact ⟨fun _ => false, fun x => by simp [hk], by rw [findGo_none]; simp [findF, hk]⟩
  obtain ⟨hf, hfx, hfl⟩ := hh
  rw [← hfl]
  refine run_loop (FindI l r hf 6 7 8 0 9) (fun F _ => l.length - (F 9).num) (.here ⟨0, zeroVal, false, [], by omega, by simp, by simp [zeroVal], by simp, by simp, by simp, by simp, by simp, by simp, by simp⟩) ?_
  rintro F s ⟨i, v, f, rest, hi, h9, hs, h3, h4, h6, h7, h8, h0, hg⟩
  simp [h0, h3, h4, h6, h7, h8, h9]
  refine condR_mk (fun g => ?_) (fun g => ?_) <;> simp at g <;> simp [h0, h3, h4, h6, h7, h8, h9]
  · have hws := wrap_suc i (by omega)
    rw [List.drop_eq_getElem_cons g] at hg
    have no : hf l[i] = false → findGo hf (l.drop (i + 1)) v f = findGo hf l zeroVal false := fun hh => by
      rw [← hg]; simp [findGo, hh]
    refine RDraw_mk [] (.go 0 .p (.go 1 .l (.go 2 .p (.go 3 .p (.go 4 .p (.go 5 .p (.go 6 .p (.go 7 .p (.go 9 .p (.go 8 .l (.go 10 .l (.go 11 .p (.go 12 .p (.go 13 .p (.go 14 .p (.go 15 .p (.go 16 .p (.go 17 .p (.go 19 .p (.go 18 .l (.go 20 .l (.go 21 .p (.go 22 .p (.go 23 .p (.go 24 .p (.go 25 .p (.go 26 .p (.go 27 .p (.go 29 .p (.go 28 .l (.go 30 .c (.go 31 .p (.go 32 .p .nil))))))))))))))))))))))))))))))))) (by kernel_rfl) ?_
    simp [g, hs, h0, h3, h4, h6, h7, h8, h9]
    have next : ∀ (F' : Fr), F' 9 = .int .i64 (i + 1 : Nat) → F' 3 = .ptr 0 0 → F' 4 = .ptr 1 0 → F' 6 = .ptr 2 0 → F' 7 = .bool f → F' 8 = .sl 23 4 .ro ((fromF r.alts).map encV) → F' 0 = .sl 43 7 .ro (l.map encR) → hf l[i] = false → FindI l r hf 6 7 8 0 9 F' s :=
      fun F' k9 k3 k4 k6 k7 k8 k0 hh => ⟨i + 1, v, f, rest, by omega, k9, hs, k3, k4, k6, k7, k8, k0, no hh⟩
    refine gR_mk (fun g1 => ?_) (fun g1 => ?_) <;> simp [g1, g, hs, h0, h3, h4, h6, h7, h8, h9, hws]
    · refine .here ⟨next _ (by simp) (by simp [h3]) (by simp [h4]) (by simp [h6]) (by simp [h7]) (by simp [h8]) (by simp [h0]) (by simp at g1; rw [hfx]; simp [g1]), ?_⟩
      simp [AV.num]; omega
    · refine gR_mk (fun g2 => ?_) (fun g2 => ?_) <;> simp [g1, g2, g, hs, h0, h3, h4, h6, h7, h8, h9, hws]
      · refine .here ⟨next _ (by simp) (by simp [h3]) (by simp [h4]) (by simp [h6]) (by simp [h7]) (by simp [h8]) (by simp [h0]) (by simp at g2; rw [hfx]; simp [hit, g2]), ?_⟩
        simp [AV.num]; omega
      · refine gR_mk (fun g3 => ?_) (fun g3 => ?_) <;> simp [g1, g2, g3, g, hs, h0, h3, h4, h6, h7, h8, h9, hws]
        · refine .here ⟨next _ (by simp) (by simp [h3]) (by simp [h4]) (by simp [h6]) (by simp [h7]) (by simp [h8]) (by simp [h0]) (by simp at g3; rw [hfx]; simp [hit, g3]), ?_⟩
          simp [AV.num]; omega
        · refine callW_of (by simp) ?_
          simp [g1, g2, g3, g, hs, h0, h3, h4, h6, h7, h8, h9, hws]
          refine (compareLists_pure l[i].src (fromF r.alts) (by have := ho _ (List.getElem_mem g); unfold okR at this; omega)).run true (by simp [g1, g2, g3, g, hs, h0, h3, h4, h6, h7, h8, h9, hws]) ?_
          simp [g1, g2, g3, g, hs, h0, h3, h4, h6, h7, h8, h9, hws]
          refine condR_mk (fun g4 => ?_) (fun g4 => ?_) <;> simp [lcmp_zero] at g4 <;> simp [g, hs, h0, h3, h4, h6, h7, h8, h9, hws]
          · refine .here ⟨next _ (by simp) (by simp [h3]) (by simp [h4]) (by simp [h6]) (by simp [h7]) (by simp [h8]) (by simp [h0]) (by rw [hfx]; simp [hit, g4]), ?_⟩
            simp [AV.num]; omega
          · have yes : hf l[i] = true := by simp at g1 g2 g3; rw [hfx]; simp [hit, g1, g2, g3, g4]
            simp only [findGo, yes, if_true] at hg
            refine RDraw_mk [] (.go 0 .p (.go 1 .p (.go 3 .p (.go 4 .p (.go 5 .p (.go 6 .p (.go 2 .l (.go 7 .l (.go 8 .p (.go 9 .p .nil)))))))))) (by kernel_rfl) ?_
            simp [g, hs, h0, h3, h4, h6, h7, h8, h9, hws]
            refine gR_mk (fun g5 => ?_) (fun g5 => ?_) <;> simp [g5, g, hs, h0, h3, h4, h6, h7, h8, h9, hws]
            · refine condR_mk (fun g6 => ?_) (fun g6 => ?_) <;> simp at g6 <;> simp [g6, g, hs, h0, h3, h4, h6, h7, h8, h9, hws]
              · rw [if_pos ⟨g5, g6⟩] at hg
                rw [← hg]
                simp [zeroVal]
              · rw [if_neg (fun e => e.2 g6)] at hg
                refine .here ⟨⟨i + 1, l[i].to, true, rest, by omega, by simp, by simp [g6], by simp [h3], by simp [h4], by simp [h6], by simp, by simp [h8], by simp [h0], hg⟩, ?_⟩
                simp [AV.num]; omega
            · rw [if_neg (by rw [g5]; simp)] at hg
              refine .here ⟨⟨i + 1, l[i].to, true, rest, by omega, by simp, rfl, by simp [h3], by simp [h4], by simp [h6], by simp, by simp [h8], by simp [h0], hg⟩, ?_⟩
              simp [AV.num]; omega
  · have : i = l.length := by omega
    subst this
    rw [List.drop_length] at hg
    simp [findGo] at hg
    simp [hs, h0, h3, h4, h6, h7, h8, h9, ← hg]
end Go.Proofs.YtknbhgcjgkejiaaV
