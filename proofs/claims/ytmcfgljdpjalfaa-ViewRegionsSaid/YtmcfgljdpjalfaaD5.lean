/- Contracts: crowds. -/
import Derived.Test.YtmcfgljdpjalfaaD4
set_option linter.unusedVariables false
set_option linter.unusedSimpArgs false
set_option linter.constructorNameAsVariable false
set_option linter.unusedSectionVars false
namespace Go.Proofs.YtmcfgljdpjalfaaV
open Go.RowKit Go.Proofs
attribute [local simp ↓] run_nil run_seq run_skip run_region run_draw run_cond run_block run_exit run_ret run_b run_l run_k rexit_c rexit_l rexit_k rexit_b rops_nil rplan_nil rops_cons rops_guard rplan_cons rplan_two condR_true condR_false
attribute [local simp] planR_some planR_guard rrest_o rrest_p gS_some gR_tt gR_ff gR_ft gR_tf gR_tup valP_some valP_none valE_some valE_none valS_some opR_move opR_assign opR_pick opR_binOp opR_unOp opR_convert opR_convertl opR_extract opR_field opR_fieldAddr opR_indexAddr opR_index opR_slice opR_makeFunc opR_build opR_load opR_loadl opR_p opR_store opR_alloc opR_box opR_buildSlice opR_makeSlice opR_allocc opR_boxc opR_buildSlicec opR_makeSlicec opR_len opR_append opR_clear opR_call opR_callc opR_makeMap opR_makeMapc opR_mapEntry opR_lookup opR_lookupl opR_mapUpdate opR_insert opR_entryStore
attribute [local simp] evP boxAV allocAV okCells_agg okCells_sl okCells_so okCells_int okCells_bool okCells_str okCells_nilp okCells_nilfn okCells_ptr okCells_fn okCells_ub loadAV loadEl storeAV storeEl partAV partAV0 fieldAV fieldAddrAV indexAddrAV indexAV lenAV sliceAV boundAV fieldAt? elemOf? kindOf look cst updO upd dstOk binAV_int binAV_str binAV_bool binAV_fn binAV_nilfn binAV_agg binAV_sl eqUb binInt binStr isShift shiftInt unAV convAV bytesAV bytesOf clearAV TD.agg RetQ resAV resAVs resAV1 F0 AV.ret AV.retL St.empty fnOf_fn gslot buildAV fillAV placesAV buildSliceAV makeSliceAV appendAV appRow_so appRow_nil listAV_sl listAV_so cutL fillE zeroElem? addRows_nil le_refl leL_refl le_agg le_tup le_int le_bool le_str le_sl leL_nil leL_cons conv0 conv_tk arg_tk res_tk fzn_tk fzn_so fzn_elo fzn_ptr res_so deep_tk tkArg_ro tkArg_fz tkArg_nil tkRes_ro tkRes_nil tkRes_fz conv_so arg_so deepc_so deepa_so at_new at_nil at_box live_at' new_len new_box put_len put_box retL_append retL_take retL_drop retL_set retL_replicate at_fzn fzn_len fzn_mo res_mo arg_mo conv_mo makeMapAV mapAV lookAV keyBits keyBits1 allBits keyOk basicD updL En.body fzn_box
attribute [local simp] encV encA encI encSl encC encSp encM encS encMo eqV10 eqV0 eqA10 eqSp10 eqOp retL_V retL_A retL_I retL_C retL_Sp retL_M retL_Sl_conv retL_Sl_arg retL_Sl_res retL_Sl_fzn retL_Sl_dc retL_Sl_da T_int T_bool T_u8 T_string T_MarkL T_Slots T_StateT T_RegionL T_Alts T_ints T_Region T_Mark T_Value T_Alt T_Slot T_Cells T_ModelT T_Cell T_seqSlot T_mapSpot T_SpotL T_Spot T_yieldSlot
/-- The rows of the crowds. -/
def GRows (L : List G3) (K : Nat) (s : St) : Prop := (∀ g ∈ L, s.at g.row = some (3, 1, g.ents.map encI) ∧ g.row ≠ K) ∧ (L.map (·.row)).Nodup
theorem nodup_set {α : Type} {l : List α} (h : l.Nodup) {k : Nat} {x : α} (hx : x ∉ l) : (l.set k x).Nodup := by
  refine List.pairwise_iff_getElem.2 fun i j hi hj hij => ?_
  simp only [List.length_set] at hi hj
  have hp := List.pairwise_iff_getElem.1 h i j hi hj hij
  rw [List.getElem_set, List.getElem_set]
  split
  · split
    · omega
    · exact fun e => hx (e ▸ List.getElem_mem hj)
  · split
    · exact fun e => hx (e ▸ List.getElem_mem hi)
    · exact hp
theorem GRows.put {L : List G3} {K : Nat} {s : St} (h : GRows L K s) (hK : K < s.row.length) {k : Nat} (hk : k < L.length) (g' : G3) (c0 R : RowC) (hrow : g'.row = s.row.length + 1) :
    GRows (L.set k g') K (((s.new none c0).new (some L[k].row) (3, 1, g'.ents.map encI)).put K R) := by
  have hp : ∀ m, m ≠ K → (((s.new none c0).new (some L[k].row) (3, 1, g'.ents.map encI)).put K R).at m = if m = s.row.length + 1 then some (3, 1, g'.ents.map encI) else if L[k].row = m then none else if m = s.row.length then some c0 else s.at m := fun m hm => by
    rw [at_put (by simp [new_len]; omega), if_neg hm, at_new, at_new, new_len]
    simp
  have ne : ∀ j (hj : j < L.length), k ≠ j → L[k].row ≠ L[j].row := fun j hj hne => by
    have hp := List.pairwise_iff_getElem.1 h.2
    rcases Nat.lt_or_ge k j with hl | hl
    · have := hp k j (by simpa using hk) (by simpa using hj) hl
      simpa using this
    · have := hp j k (by simpa using hj) (by simpa using hk) (by omega)
      simpa using this.symm
  have hlt : ∀ g ∈ L, g.row < s.row.length := fun g hg => at_lt (h.1 g hg).1
  refine ⟨fun g hg => ?_, ?_⟩
  · obtain ⟨j, hj, rfl⟩ := List.getElem_of_mem hg
    simp only [List.length_set] at hj
    rw [List.getElem_set]
    split
    · refine ⟨?_, by omega⟩
      rw [hp _ (by omega), if_pos hrow]
    · rename_i hne
      have hgs := h.1 _ (List.getElem_mem hj)
      have hl := hlt _ (List.getElem_mem hj)
      refine ⟨?_, hgs.2⟩
      rw [hp _ hgs.2, if_neg (by omega), if_neg (ne j hj hne), if_neg (by omega)]
      exact hgs.1
  · rw [List.map_set]
    refine nodup_set h.2 fun q => ?_
    obtain ⟨g, hg, e⟩ := List.mem_map.1 q
    have := hlt g hg
    omega
theorem GRows.ins {L : List G3} {K K' : Nat} {s s' : St} (h : GRows L K s) (k : Nat) (x : G3) (hn : s'.at x.row = some (3, 1, x.ents.map encI)) (hnK : x.row ≠ K') (hnew : s.row.length ≤ x.row) (hK' : s.row.length ≤ K') (same : ∀ m, m < s.row.length → m ≠ K → s'.at m = s.at m) :
    GRows (L.take k ++ x :: L.drop k) K' s' := by
  have hlt : ∀ g ∈ L, g.row < s.row.length := fun g hg => at_lt (h.1 g hg).1
  refine ⟨fun g hg => ?_, ?_⟩
  · have : g = x ∨ g ∈ L := by
      rcases List.mem_append.1 hg with hg | hg
      · exact .inr (List.mem_of_mem_take hg)
      · rcases List.mem_cons.1 hg with hg | hg
        · exact .inl hg
        · exact .inr (List.mem_of_mem_drop hg)
    rcases this with rfl | hg
    · exact ⟨hn, hnK⟩
    · have h1 := h.1 g hg
      have h2 := hlt g hg
      exact ⟨by rw [same _ h2 h1.2]; exact h1.1, by omega⟩
  · have hp : (L.take k ++ x :: L.drop k).Perm (x :: L) := by
      have := List.perm_middle (a := x) (l₁ := L.take k) (l₂ := L.drop k)
      rwa [List.take_append_drop] at this
    rw [(hp.map (·.row)).nodup_iff, List.map_cons, List.nodup_cons]
    refine ⟨fun q => ?_, h.2⟩
    obtain ⟨g, hg, e⟩ := List.mem_map.1 q
    have := hlt g hg
    omega
def twoF (L : List G3) : List G3 := L.filter fun g => decide (1 < g.ents.length)
theorem twoF_suc (L : List G3) (i : Nat) (h : i < L.length) : twoF (L.take (i + 1)) = if 1 < L[i].ents.length then twoF (L.take i) ++ [L[i]] else twoF (L.take i) := by
  unfold twoF
  rw [List.take_succ_eq_append_getElem h, List.filter_append]
  split
  · rename_i h; simp [h]
  · rename_i h; simp [h]
def encG3z (g : G3) : AV := .agg [.int .i64 2, .int .i64 g.id, .int .i64 g.field, .sl 0 0 .nil [], .sl 3 1 .fz (g.ents.map encI)]
theorem retL_G3 (s : St) (f : Nat) : ∀ L : List G3, (∀ g ∈ L, s.at g.row = some (3, 1, g.ents.map encI)) → AV.retL (Ret.deep some (fun _ => none) s (some .fz) (f + 1)) (L.map encG3) = L.map encG3z
  | [], _ => rfl
  | g :: L, h => by
    have ih := retL_G3 s f L fun x hx => h x (by simp [hx])
    have hg := h g (by simp)
    have hc : cutL 0 g.ents.length (g.ents.map encI) = g.ents.map encI := by simp [cutL]
    simp only [List.map_cons, AV.retL, ih, List.cons.injEq, and_true]
    simp only [encG3, encG3z, AV.ret, AV.retL]
    have e1 : (Ret.deep some (fun _ => none) s (some .fz) (f + 1)).so g.row 0 g.ents.length = .sl 3 1 .fz (g.ents.map encI) := by
      show (match s.at g.row with | some p => _ | none => _) = _
      rw [hg]
      simp [retL_I]
      exact List.take_of_length_le (by simp)
    rw [e1]
    rfl
theorem leL_maps {α : Type} {f g : α → AV} : ∀ L : List α, (∀ x ∈ L, (f x).le (g x)) → AV.leL (L.map f) (L.map g)
  | [], _ => by simp [AV.leL]
  | x :: L, h => by
    simp only [List.map_cons, leL_cons]
    exact ⟨h x (by simp), leL_maps L fun y hy => h y (by simp [hy])⟩
theorem twoF_crowds {L : List G3} {l : List CellV} (h : L.map g2 = groupsR l) : AV.leL ((twoF L).map encG3z) ((crowdsF l).map encG) := by
  unfold crowdsF
  rw [← h, List.filter_map, List.map_map, List.map_map]
  have e : L.filter ((fun g : G2 => decide (1 < g.ents.length)) ∘ g2) = twoF L := rfl
  rw [e]
  refine leL_maps _ fun g _ => ?_
  simp [encG3z, encG, g2, AV.le, AV.leL, leL_refl]
def TwI (L : List G3) (i : Nat) (F : Fr) (s : St) : Prop :=
  i ≤ L.length ∧ F 9 = .int .i64 i ∧ ∃ K T, F 3 = .so K 0 L.length ∧ s.at K = some (36, 5, L.map encG3) ∧ GRows L K s ∧ F 8 = .so T 0 (twoF (L.take i)).length ∧ s.at T = some (36, 5, (twoF (L.take i)).map encG3) ∧ T ≠ K ∧ ∀ g ∈ L, g.row ≠ T
def CrI (l : List CellV) (i : Nat) (F : Fr) (s : St) : Prop :=
  i ≤ l.length ∧ F 1 = .ptr 0 0 ∧ F 4 = .int .i64 i ∧ (∃ rest, s.box = (52, [.sl 55 6 .ro (l.map encC)]) :: rest) ∧ ∃ K L, F 3 = .so K 0 L.length ∧ s.at K = some (36, 5, L.map encG3) ∧ GRows L K s ∧ L.map g2 = groupsR (l.take i)
theorem crowds_pure (l : List CellV) (hl : l.length < 1000000000) : Pure Try.prog 23 [encMo l] [] (.sl 36 5 .fz ((crowdsF l).map encG)) := by
  refine Pure.of_run hmix Try.func23 (by kernel_rfl) rfl ⟨Try.ntmps23, by simp⟩ ?_
  simp [-run_block, -run_seq]
  rw [run_seq]
  simp [-run_block, -run_seq]
  rw [run_seq]
  simp [-run_block, -run_seq]
  rw [run_seq]
  refine run_cut (fun F s => ∃ K L, F 3 = .so K 0 L.length ∧ s.at K = some (36, 5, L.map encG3) ∧ GRows L K s ∧ L.map g2 = groupsR l) ?_ ?_
  · simp
    refine run_loop (fun F s => ∃ i, CrI l i F s) (fun F _ => l.length - (F 4).num) (.by (Weak.adopt (i := 3) (by simp; exact ⟨rfl, rfl, rfl⟩) 36 5 (by omega)) (.here ⟨0, by omega, by simp, by simp, ⟨[], rfl⟩, 0, [], by simp, by simp, ⟨by simp, by simp⟩, by simp [groupsR]⟩)) ?_
    rintro F s ⟨i, hi, h1, h4, ⟨rest, hb⟩, K, L, h3, hK, hR, hL⟩
    have hKl := at_lt hK
    have hbd := groupsR_bound l i hi
    rw [← hL] at hbd
    have hLl : L.length ≤ i := by simpa using hbd.1
    simp [-run_block, h1, h3, h4, hb]
    refine condR_mk (fun h => ?_) (fun h => ?_) <;> simp at h <;> simp [-run_block, h1, h3, h4, hb]
    · have hw := wrap_suc i (by omega)
      refine run_cut (fun F s => F 1 = .ptr 0 0 ∧ F 4 = .int .i64 i ∧ (∃ rest, s.box = (52, [.sl 55 6 .ro (l.map encC)]) :: rest) ∧ ∃ K L, F 3 = .so K 0 L.length ∧ s.at K = some (36, 5, L.map encG3) ∧ GRows L K s ∧ L.map g2 = groupsR (l.take (i + 1))) ?_ ?_
      · rw [run_block, run_seq]
        simp [-run_block, -run_seq, h, h1, h3, h4, hb]
        rw [run_seq]
        obtain ⟨c, hc⟩ : ∃ c, c = l[i] := ⟨_, rfl⟩
        rw [← hc]
        have hsuc := groupsR_suc l i h
        rw [← hc, ← hL] at hsuc
        rw [hsuc]
        refine run_cut (fun F s => crowdB c = true ∧ F 1 = .ptr 0 0 ∧ F 4 = .int .i64 i ∧ F 5 = .ptr (rest.length + 1) 0 ∧ s.box = (52, [.sl 55 6 .ro (l.map encC)]) :: (rest ++ [(55, [.int .i64 c.id, .int .i64 c.field, .int .i64 c.v.n, .bool c.v.flag, .str c.v.text, .int .i64 c.v.ref])]) ∧ F 3 = .so K 0 L.length ∧ s.at K = some (36, 5, L.map encG3) ∧ GRows L K s) ?_ ?_
        · have no : crowdB c = false → (crowdB c = true ∨ True) := fun _ => .inr trivial
          by_cases b1 : c.field = 2
          · by_cases b2 : c.v.ref = 0
            · have hc0 : crowdB c = false := by simp [crowdB, b2]
              simp [h1, h3, h4, hb, b1, b2, hc0]
              exact ⟨K, L, ⟨rfl, rfl⟩, hK, hR, rfl⟩
            · have b2' : (c.v.ref == 0) = false := by simp [b2]
              by_cases b3 : c.v.n < 1
              · have hc0 : crowdB c = false := by simp [crowdB]; omega
                simp [h1, h3, h4, hb, b1, b2, b2', b3, hc0]
                exact ⟨K, L, ⟨rfl, rfl⟩, hK, hR, rfl⟩
              · by_cases b4 : 3 < c.v.n
                · have hc0 : crowdB c = false := by simp [crowdB]; omega
                  simp [h1, h3, h4, hb, b1, b2, b2', b3, b4, hc0]
                  exact ⟨K, L, ⟨rfl, rfl⟩, hK, hR, rfl⟩
                · have hc1 : crowdB c = true := by simp [crowdB, b1, b2]; omega
                  simp [h1, h3, h4, hb, b1, b2, b2', b3, b4, hc1]
                  exact ⟨hK, hR⟩
          · have b1' : (c.field != 2) = true := by simp [b1]
            have hc0 : crowdB c = false := by simp [crowdB, b1]
            simp [h1, h3, h4, hb, b1', hc0]
            exact ⟨K, L, ⟨rfl, rfl⟩, hK, hR, rfl⟩
        · rintro F s ⟨hcr, h1, h4, h5, hb, h3, hK, hR⟩
          have hKl := at_lt hK
          simp only [hcr, if_true]
          rw [run_seq]
          simp [-run_block, -run_seq]
          rw [run_seq]
          have hgl := gPlace_le L c.v.ref c.v.n
          refine run_cut (fun F' s' => s' = s ∧ F' 1 = .ptr 0 0 ∧ F' 4 = .int .i64 i ∧ F' 5 = .ptr (rest.length + 1) 0 ∧ F' 3 = .so K 0 L.length ∧ F' 6 = .int .i64 (gPlace L c.v.ref c.v.n)) ?_ ?_
          · simp
            refine run_loop (fun F' s' => ∃ k : Nat, k ≤ gPlace L c.v.ref c.v.n ∧ s' = s ∧ F' 1 = .ptr 0 0 ∧ F' 4 = .int .i64 i ∧ F' 5 = .ptr (rest.length + 1) 0 ∧ F' 3 = .so K 0 L.length ∧ F' 6 = .int .i64 k) (fun F _ => L.length - (F 6).num) (.here ⟨0, by simp [h1, h3, h4, h5]⟩) ?_
            rintro F s' ⟨k, hk, rfl, h1, h4, h5, h3, h6⟩
            simp [h1, h3, h4, h5, h6]
            refine RDraw_mk [] (.go 0 .p (.go 1 .p (.go 2 .p (.go 3 .p (.go 4 .p (.go 5 .p (.go 6 .p (.go 7 .p (.go 8 .p (.go 10 .p (.go 11 .p (.go 12 .p (.go 13 .p (.go 15 .p (.go 16 .p (.go 18 .p (.go 19 .p (.go 9 .l (.go 14 .l (.go 17 .l (.go 20 .l (.go 21 .c (.go 22 .p .nil))))))))))))))))))))))) (by kernel_rfl) ?_
            simp [h1, h3, h4, h5, h6]
            rcases Nat.lt_or_ge k L.length with g | g
            · by_cases g1 : aheadB L[k].id L[k].field c.v.ref c.v.n = true
              · have hw2 := wrap_suc k (by omega)
                have hlt : k < gPlace L c.v.ref c.v.n := by
                  rcases Nat.lt_or_ge k (gPlace L c.v.ref c.v.n) with h | h
                  · exact h
                  · have : k = gPlace L c.v.ref c.v.n := by omega
                    subst this
                    rw [gPlace_at _ _ _ g] at g1; cases g1
                simp [g, hK, encG3, hb, h1, h3, h4, h5, h6]
                refine callW_of (by simp) ?_
                simp [g, hK, encG3, hb, h1, h3, h4, h5, h6, g1, hw2]
                refine (Ahead_pure L[k].id L[k].field c.v.ref c.v.n).run true (by simp [g, hK, encG3, hb, h1, h3, h4, h5, h6, g1, hw2]) ?_
                simp [g, hK, encG3, hb, h1, h3, h4, h5, h6, g1, hw2]
                refine .here ⟨⟨k + 1, hlt, by simp [h1, h3, h4, h5]⟩, ?_⟩
                simp [AV.num]; omega
              · have hge : k = gPlace L c.v.ref c.v.n := by
                  rcases Nat.lt_or_ge k (gPlace L c.v.ref c.v.n) with h | h
                  · exact absurd (gPlace_lt _ _ _ k g h) g1
                  · omega
                have g1' : aheadB L[k].id L[k].field c.v.ref c.v.n = false := by simpa using g1
                simp [g, hK, encG3, hb, h1, h3, h4, h5, h6]
                refine callW_of (by simp) ?_
                simp [g, hK, encG3, hb, h1, h3, h4, h5, h6, g1']
                refine (Ahead_pure L[k].id L[k].field c.v.ref c.v.n).run true (by simp [g, hK, encG3, hb, h1, h3, h4, h5, h6, g1']) ?_
                simp [g, hK, encG3, hb, h1, h3, h4, h5, h6, g1']
                omega
            · have hge : k = gPlace L c.v.ref c.v.n := by omega
              have g' : ¬ k < L.length := by omega
              simp [g', hK, hb, h1, h3, h4, h5, h6]
              omega
          · rintro F s' ⟨rfl, h1, h4, h5, h3, h6⟩
            obtain ⟨k, hk⟩ : ∃ k, k = gPlace L c.v.ref c.v.n := ⟨_, rfl⟩
            rw [← hk] at h6 hgl
            have haddG := fun n => addG_R L c n
            simp only [addG, ← hk] at haddG
            rw [run_seq]
            refine run_cut (fun F'' s'' => s'' = s' ∧ F'' 1 = .ptr 0 0 ∧ F'' 4 = .int .i64 i ∧ F'' 5 = .ptr (rest.length + 1) 0 ∧ F'' 3 = .so K 0 L.length ∧ F'' 6 = .int .i64 k ∧ ∀ n, (L.take k ++ ⟨c.v.ref, c.v.n, [c.id], n⟩ :: L.drop k).map g2 = addR (L.map g2) c) ?_ ?_
            · simp [h1, h3, h4, h5, h6]
              refine RDraw_mk [] (.go 0 .p (.go 1 .p (.go 2 .p (.go 3 .p (.go 4 .p (.go 5 .p (.go 6 .p (.go 7 .p (.go 8 .p (.go 10 .p (.go 11 .p (.go 9 .l (.go 12 .l (.go 13 .p (.go 14 .p (.go 15 .p (.go 16 .p (.go 17 .p (.go 18 .p (.go 19 .p (.go 21 .p (.go 22 .p (.go 20 .l (.go 23 .l (.go 24 .p (.go 25 .p .nil)))))))))))))))))))))))))) (by kernel_rfl) ?_
              simp [h1, h3, h4, h5, h6, hK]
              rcases Nat.lt_or_ge k L.length with g | g
              · have hLk : L[k]? = some L[k] := List.getElem?_eq_getElem g
                simp only [hLk] at haddG
                by_cases e1 : L[k].id = c.v.ref
                · by_cases e2 : L[k].field = c.v.n
                  · simp only [e1, e2, and_self, if_true] at haddG
                    obtain ⟨hr1, hr2⟩ := hR.1 _ (List.getElem_mem g)
                    have hrl := at_lt hr1
                    have q0 : ¬ L[k].row = s'.row.length := by omega
                    have q1 : ¬ L[k].row = s'.row.length + 1 := by omega
                    have q2 : ¬ K = s'.row.length := by omega
                    have q3 : ¬ K = s'.row.length + 1 := by omega
                    have hel : L[k].ents.length ≤ i := by
                      have := hbd.2 (g2 L[k]) (List.mem_map_of_mem (List.getElem_mem g))
                      simpa [g2] using this
                    simp [g, e1, e2, hK, encG3, hb, h1, h3, h4, h5, h6]
                    refine RDraw_mk [10, 13] (.go 0 .p (.go 1 .p (.go 2 .p (.go 3 .p (.go 4 .p (.go 5 .p (.go 7 .p (.go 6 .l (.go 8 .l (.go 9 .c (.go 10 .x (.go 11 .p (.go 12 .p (.go 13 .x .nil)))))))))))))) (by kernel_rfl) ?_
                    simp [g, e1, e2, hK, hr1, q0, encG3, hb, h1, h3, h4, h5, h6]
                    rw [if_pos (by omega)]
                    simp [g, e1, e2, hK, hr1, hr2, q0, q1, q2, q3, encG3, hb, h1, h3, h4, h5, h6]
                    refine ⟨K, L.set k ⟨c.v.ref, c.v.n, L[k].ents ++ [c.id], s'.row.length + 1⟩, ⟨rfl, by simp⟩, ?_, ?_, haddG _⟩
                    · rw [at_put (by simp [new_len]; omega), if_pos rfl, List.map_set]
                      simp [encG3]
                    · have := hR.put hKl g ⟨c.v.ref, c.v.n, L[k].ents ++ [c.id], s'.row.length + 1⟩ (3, 1, [AV.int IntKind.i64 c.id]) (36, 5, (List.map encG3 L).set k (AV.agg [AV.int IntKind.i64 2, AV.int IntKind.i64 c.v.ref, AV.int IntKind.i64 c.v.n, AV.sl 0 0 Tok.nil [], AV.so (s'.row.length + 1) 0 (L[k].ents.length + 1)])) rfl
                      simpa using this
                  · have e2' : (L[k].field == c.v.n) = false := by simp [e2]
                    simp only [e2, and_false, if_false] at haddG
                    simp [g, e1, e2', hK, encG3, hb, h1, h3, h4, h5, h6]
                    exact fun n => by simpa using haddG n
                · have e1' : (L[k].id == c.v.ref) = false := by simp [e1]
                  simp only [e1, false_and, if_false] at haddG
                  simp [g, e1', hK, encG3, hb, h1, h3, h4, h5, h6]
                  exact fun n => by simpa using haddG n
              · have g' : ¬ k < L.length := by omega
                simp only [List.getElem?_eq_none g] at haddG
                simp [g', hK, hb, h1, h3, h4, h5, h6]
                exact fun n => by simpa using haddG n
            · rintro F s'' ⟨rfl, h1, h4, h5, h3, h6, hadd⟩
              have q2 : ¬ K = s''.row.length := by omega
              simp [hgl, hK, hb, h1, h3, h4, h5, h6, q2]
              rw [if_pos (by omega)]
              have q3 : ¬ K = s''.row.length + 1 := by omega
              simp [hgl, hK, hb, h1, h3, h4, h5, h6, q2, q3]
              refine RDraw_mk [14, 16] (.go 0 .p (.go 1 .p (.go 2 .p (.go 3 .p (.go 4 .p (.go 6 .p (.go 7 .p (.go 9 .p (.go 15 .p (.go 5 .l (.go 8 .l (.go 10 .l (.go 11 .c (.go 12 .p (.go 13 .c (.go 14 .x (.go 16 .x (.go 17 .p .nil)))))))))))))))))) (by kernel_rfl) ?_
              have q4 : ¬ s''.row.length = K := by omega
              have q5 : ¬ s''.row.length + 1 = K := by omega
              have q6 : ¬ K = s''.row.length + 1 + 1 := by omega
              have q7 : ¬ K = s''.row.length + 1 + 1 + 1 := by omega
              simp [hgl, hK, hb, h1, h3, h4, h5, h6, q2, q3, q4, q5, q6, q7]
              have hX : (if L.length ≤ k then List.map encG3 L else List.take k (List.map encG3 L)) = (L.take k).map encG3 := by
                split
                · rw [List.take_of_length_le (by omega)]
                · rw [List.map_take]
              have hXl : ((L.take k).map encG3).length = k := by simp; omega
              rw [hX, hXl, if_pos (by omega)]
              simp [hgl, hK, hb, h1, h3, h4, h5, h6, q2, q3, q4, q5, q6, q7]
              rw [if_pos (by omega)]
              simp [hgl, hK, hb, h1, h3, h4, h5, h6, q2, q3, q4, q5, q6, q7]
              refine ⟨_, L.take k ++ ⟨c.v.ref, c.v.n, [c.id], s''.row.length + 1 + 1⟩ :: L.drop k, ⟨rfl, by simp; omega⟩, by simp [encG3], hR.ins k ⟨c.v.ref, c.v.n, [c.id], s''.row.length + 1 + 1⟩ ?_ (by simp) (by simp; omega) (by omega) ?_, hadd _⟩
              · simp [at_new, q6]
                omega
              · intro m hm hmK
                have r1 : ¬ m = s''.row.length := by omega
                have r2 : ¬ m = s''.row.length + 1 := by omega
                have r3 : ¬ m = s''.row.length + 1 + 1 := by omega
                have r4 : ¬ m = s''.row.length + 1 + 1 + 1 := by omega
                have r5 : ¬ m = s''.row.length + 1 + 1 + 1 + 1 := by omega
                have r6 : ¬ m = s''.row.length + 1 + 1 + 1 + 1 + 1 := by omega
                have r7 : ¬ s''.row.length + 1 + 1 + 1 + 1 = m := by omega
                have r8 : ¬ K = m := fun e => hmK e.symm
                have r9 : ¬ s''.row.length = m := by omega
                simp [at_new, r1, r2, r3, r4, r5, r6, r7, r8, r9]
      · rintro F s ⟨h1, h4, ⟨rest, hb⟩, K, L, h3, hK, hR, hL⟩
        simp [h1, h3, h4, hb, hw]
        refine .here ⟨⟨i + 1, by omega, h1, by simp, ⟨rest, hb⟩, K, L, h3, hK, hR, hL⟩, ?_⟩
        simp [AV.num, h4]; omega
    · have : i = l.length := by omega
      subst this
      rw [List.take_length] at hL
      exact ⟨K, L, ⟨rfl, rfl⟩, hK, hR, hL⟩
  · rintro F s ⟨K, L, h3, hK, hR, hL⟩
    have hbd := groupsR_bound l l.length (Nat.le_refl _)
    rw [List.take_length, ← hL] at hbd
    have hLl : L.length ≤ l.length := by simpa using hbd.1
    rw [run_seq]
    simp [-run_seq, h3]
    rw [run_seq]
    refine run_cut (fun F s => TwI L L.length F s) ?_ ?_
    · simp [h3]
      have hKl := at_lt hK
      refine run_loop (fun F s => ∃ i, TwI L i F s) (fun F _ => L.length - (F 9).num) (.by (Weak.adopt (i := 8) (by simp; exact ⟨rfl, rfl, rfl⟩) 36 5 (by omega)) (.here ⟨0, by omega, by simp, K, s.row.length, by simp [h3], ?_, ?_, ?_, ?_, by omega, fun g hg => by have := at_lt (hR.1 g hg).1; omega⟩)) ?_
      · rw [at_new, if_neg (by omega)]; simpa using hK
      · exact ⟨fun g hg => ⟨by have := at_lt (hR.1 g hg).1; rw [at_new, if_neg (by omega)]; simpa using (hR.1 g hg).1, (hR.1 g hg).2⟩, hR.2⟩
      · simp [twoF]
      · simp [twoF]
      rintro F s ⟨i, hi, h9, K, T, h3, hK, hR, h8, hT, hTK, hTR⟩
      have hKl := at_lt hK
      have hTl := at_lt hT
      simp [h3, h9, hK]
      refine condR_mk (fun h => ?_) (fun h => ?_) <;> simp at h <;> simp [-run_block, h3, h9, hK]
      · have hw := wrap_suc i (by omega)
        have hsuc := twoF_suc L i h
        obtain ⟨o, ho⟩ : ∃ o, o = twoF (L.take i) := ⟨_, rfl⟩
        rw [← ho] at hsuc hT h8
        have hol : o.length ≤ i := by
          rw [ho]
          refine Nat.le_trans (List.length_filter_le _ _) ?_
          simp; omega
        refine run_cut (fun F s => F 9 = .int .i64 i ∧ ∃ K T, F 3 = .so K 0 L.length ∧ s.at K = some (36, 5, L.map encG3) ∧ GRows L K s ∧ F 8 = .so T 0 (twoF (L.take (i + 1))).length ∧ s.at T = some (36, 5, (twoF (L.take (i + 1))).map encG3) ∧ T ≠ K ∧ ∀ g ∈ L, g.row ≠ T) ?_ ?_
        · obtain ⟨hr1, hr2⟩ := hR.1 _ (List.getElem_mem h)
          by_cases g : 1 < L[i].ents.length
          · rw [if_pos g] at hsuc
            have g' : (1 : Int) < L[i].ents.length := by omega
            have q0 : ¬ T = s.row.length := by omega
            have q1 : ¬ T = s.row.length + 1 := by omega
            have q2 : ¬ K = s.row.length := by omega
            simp [h, g, g', h3, h8, h9, hK, hr1, hT, q0, q1, q2, encG3]
            rw [if_pos (by omega)]
            have q3 : ¬ K = s.row.length + 1 := by omega
            have q4 : ¬ s.row.length + 1 = K := by omega
            have q5 : ∀ g ∈ L, ¬ g.row = s.row.length + 1 := fun g hg => by have := at_lt (hR.1 g hg).1; omega
            simp [h, g, g', h3, h8, h9, hK, hr1, hT, q0, q1, q2, q3, hTK, encG3]
            refine ⟨⟨fun g hg => ⟨?_, (hR.1 g hg).2⟩, hR.2⟩, s.row.length + 1, ⟨rfl, by simp [hsuc]⟩, by simp [hsuc, encG3], q4, q5⟩
            have hl := at_lt (hR.1 g hg).1
            have hT' := hTR g hg
            have r1 : ¬ g.row = s.row.length := by omega
            have r2 : ¬ g.row = s.row.length + 1 := by omega
            have r3 : ¬ T = g.row := fun e => hT' e.symm
            simp [at_new, r1, r2, r3]
            exact (hR.1 g hg).1
          · rw [if_neg g] at hsuc
            have g' : ¬ (1 : Int) < L[i].ents.length := by omega
            simp [h, g, g', h3, h8, h9, hK, hr1, encG3]
            rw [hsuc]
            exact ⟨hR, T, ⟨rfl, rfl⟩, hT, hTK, hTR⟩
        · rintro F s ⟨h9, K, T, h3, hK, hR, h8, hT, hTK, hTR⟩
          simp [h9, hw]
          refine .here ⟨⟨i + 1, by omega, by simp, K, T, by simp [h3], hK, hR, by simp [h8], hT, hTK, hTR⟩, ?_⟩
          simp [AV.num]; omega
      · have : i = L.length := by omega
        subst this
        simp [h9]
        exact ⟨Nat.le_refl _, h9, K, T, h3, hK, hR, h8, hT, hTK, hTR⟩
    · rintro F s ⟨hi, h9, K, T, h3, hK, hR, h8, hT, hTK, hTR⟩
      rw [List.take_length] at h8 hT
      simp [h8, hT]
      have e : AV.retL (Ret.deep some (fun _ => none) s (some .fz) 5) ((twoF L).map encG3) = _ := retL_G3 s 4 _ fun g hg => (hR.1 g (List.mem_filter.1 hg).1).1
      rw [e]
      exact twoF_crowds hL
end Go.Proofs.YtmcfgljdpjalfaaV
