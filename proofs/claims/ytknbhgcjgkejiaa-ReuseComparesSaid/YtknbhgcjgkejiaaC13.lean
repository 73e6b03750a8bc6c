/- Contracts: the statements. -/
import Derived.Test.YtknbhgcjgkejiaaC12
set_option linter.unusedVariables false
set_option linter.unusedSimpArgs false
set_option linter.constructorNameAsVariable false
namespace Go.Proofs.YtknbhgcjgkejiaaV
open Go.RowKit Go.Proofs
attribute [local simp ↓] run_nil run_seq run_skip run_region run_draw run_cond run_block run_exit run_ret run_b run_l run_k rexit_c rexit_l rexit_k rexit_b rops_nil rplan_nil rops_cons rops_guard rplan_cons rplan_two condR_true condR_false
attribute [local simp] planR_some planR_guard rrest_o rrest_p gS_some gR_tt gR_ff gR_ft gR_tf gR_tup valP_some valP_none valE_some valE_none valS_some opR_move opR_assign opR_pick opR_binOp opR_unOp opR_convert opR_convertl opR_extract opR_field opR_fieldAddr opR_indexAddr opR_index opR_slice opR_makeFunc opR_build opR_load opR_loadl opR_p opR_store opR_alloc opR_box opR_buildSlice opR_makeSlice opR_allocc opR_boxc opR_buildSlicec opR_makeSlicec opR_len opR_append opR_clear opR_call opR_callc
attribute [local simp] evP boxAV allocAV okCells_agg okCells_sl okCells_so okCells_int okCells_bool okCells_str okCells_nilp okCells_nilfn okCells_ptr okCells_fn okCells_ub loadAV loadEl storeAV storeEl partAV partAV0 fieldAV fieldAddrAV indexAddrAV indexAV lenAV sliceAV boundAV fieldAt? elemOf? kindOf look cst updO upd dstOk binAV_int binAV_str binAV_bool binAV_fn binAV_nilfn binAV_agg binAV_sl eqUb binInt binStr isShift shiftInt unAV convAV bytesAV bytesOf clearAV TD.agg RetQ resAV resAVs resAV1 F0 AV.ret AV.retL St.empty fnOf_fn gslot buildAV fillAV placesAV buildSliceAV makeSliceAV appendAV appRow_so appRow_nil listAV_sl listAV_so cutL fillE zeroElem? addRows_nil le_refl leL_refl le_agg le_tup le_int le_bool le_str le_sl leL_nil leL_cons conv0 conv_tk arg_tk res_tk fzn_tk fzn_so fzn_elo fzn_ptr res_so deep_tk tkArg_ro tkArg_fz tkArg_nil tkRes_ro tkRes_nil tkRes_fz conv_so arg_so deepc_so deepa_so at_new at_nil at_box live_at' new_len new_box put_len put_box retL_append retL_take retL_drop retL_set retL_replicate at_fzn fzn_len
attribute [local simp] encV encR encA encI encD encG eqV10 eqOp retL_V retL_A retL_I retL_D retL_R_conv retL_R_arg retL_R_res retL_R_fzn retL_R_dc retL_R_da T_int T_bool T_u8 T_string T_Value T_fnVal T_Draws T_Records T_Alt T_Alts T_ints T_Region T_Values T_Record T_Draw T_RecordLists T_fnRec T_fnRecB T_uint T_bytes
theorem vcmp_range (a b : Val) : -1 ≤ vcmp a b ∧ vcmp a b ≤ 1 := by
  simp only [vcmp, orI, cmpI, cmpS]
  grind
theorem lawCompares_pure (a b c : Val) : Pure Try.prog 3 [encV a, encV b, encV c] [] (.bool true) := by
  refine Pure.of_run hmix Try.func3 (by kernel_rfl) rfl ⟨Try.ntmps3, by simp⟩ ?_
  simp
  refine RDraw_mk [] (.go 0 .l (.go 1 .l (.go 3 .l (.go 4 .l (.go 2 .c (.go 5 .c (.go 6 .p (.go 7 .p .nil)))))))) (by kernel_rfl) ?_
  simp
  refine callW_of (by simp) ?_
  simp
  refine (Compare_pure a b).run true (by simp) ?_
  simp
  refine callW_of (by simp) ?_
  simp
  refine (Compare_pure b c).run true (by simp) ?_
  simp
  refine callW_of (by simp) ?_
  simp
  refine (rCompare_pure a b).run true (by simp) ?_
  simp
  refine callW_of (by simp) ?_
  simp
  refine (Compare_pure b a).run true (by simp) ?_
  simp
  have hr := vcmp_range a b
  have hn : IntKind.i64.wrap (-vcmp a b) = vcmp b a := by rw [wrap_in _ (by omega) (by omega), pre_vcmp.sw a b]
  have hz := vcmp_zero a b
  have hb : (vcmp a b == 0) = decide (a = b) := by rw [Bool.eq_iff_iff]; simp [hz]
  simp [hn, hb]
  refine gR_mk (fun h => ?_) (fun h => ?_) <;> simp [h]
  · refine callW_of (by simp) ?_
    simp
    refine (awake_pure).run true (by simp) ?_
    simp
  · refine gR_mk (fun h1 => ?_) (fun h1 => ?_) <;> simp [h1]
    · refine callW_of (by simp) ?_
      simp
      refine (awake_pure).run true (by simp) ?_
      simp
    · refine callW_of (by simp) ?_
      simp
      refine (Compare_pure a c).run true (by simp) ?_
      simp
      simp at h h1
      have ht := pre_vcmp.tr a b c h h1
      simp [ht]
      refine callW_of (by simp) ?_
      simp
      refine (awake_pure).run true (by simp) ?_
      simp
/-- All records of a list, ascending, each once. -/
def uR (l : List Rec) : List Rec := insAll rcmp [] l
theorem uR_mem (l : List Rec) (y : Rec) : y ∈ uR l ↔ y ∈ l := by
  have := (insAll_ss cmp_r l [] List.Pairwise.nil).2 y
  unfold uR
  rw [this]
  simp
theorem uR_eq {l m : List Rec} (h : ∀ y, y ∈ l ↔ y ∈ m) : uR l = uR m :=
  ss_unique cmp_r _ _ (insAll_ss cmp_r l [] List.Pairwise.nil).1 (insAll_ss cmp_r m [] List.Pairwise.nil).1 fun y => by
    have h1 := uR_mem l y
    have h2 := uR_mem m y
    exact h1.trans ((h y).trans h2.symm)
theorem uR_len (l : List Rec) : (uR l).length ≤ l.length := by
  have := insAll_len rcmp l []
  simpa [uR] using this
theorem recsI_len (l : List DrawV) : (recsI l 20).length ≤ 20 := by simp [recsI]; omega
theorem recF_ok (d : DrawV) : okR (recF d) := by
  have h1 := insAll_len vcmp (((alts3 d).take (2 + modE d.id 2).toNat).map (·.v)) []
  have h2 : (alts3 d).length = 3 := rfl
  simp only [List.length_map, List.length_take, List.length_nil, h2] at h1
  unfold okR recF fromF
  simp only
  omega
theorem recsI_ok (l : List DrawV) : ∀ r ∈ recsI l 20, okR r := by
  intro r hr
  simp only [recsI, List.mem_map] at hr
  obtain ⟨d, _, rfl⟩ := hr
  exact recF_ok d
theorem uR_ok {l : List Rec} (h : ∀ r ∈ l, okR r) : ∀ r ∈ uR l, okR r := fun r hr => h r ((uR_mem l r).1 hr)
theorem app_ok {l m : List Rec} (h : ∀ r ∈ l, okR r) (k : ∀ r ∈ m, okR r) : ∀ r ∈ l ++ m, okR r := fun r hr => by
  rcases List.mem_append.1 hr with h' | h'
  · exact h r h'
  · exact k r h'
theorem add_u (a b : List Rec) (hl : a.length + b.length < 1000000000) (ha : ∀ r ∈ a, okR r) (hb : ∀ r ∈ b, okR r) : Pure Try.prog 10 [.sl 43 7 .ro (a.map encR), .sl 43 7 .ro (b.map encR)] [] (.sl 43 7 .ro ((uR (a ++ b)).map encR)) := Add_pure a b hl ha hb
theorem rAdd_u (a b : List Rec) (hl : a.length + b.length < 1000000000) (ha : ∀ r ∈ a, okR r) (hb : ∀ r ∈ b, okR r) : Pure Try.prog 12 [.sl 43 7 .ro (a.map encR), .sl 43 7 .ro (b.map encR)] [] (.sl 43 7 .ro ((uR (a ++ b)).map encR)) := rAdd_pure a b hl ha hb
theorem lawAdds_pure (a b c : List DrawV) : Pure Try.prog 4 [.sl 51 4 .ro (a.map encD), .sl 51 4 .ro (b.map encD), .sl 51 4 .ro (c.map encD)] [] (.bool true) := by
  refine Pure.of_run hmix Try.func4 (by kernel_rfl) rfl ⟨Try.ntmps4, by simp⟩ ?_
  have ca := records_pure a
  have cb := records_pure b
  have cc := records_pure c
  obtain ⟨x, hx⟩ : ∃ x, recsI a 20 = x := ⟨_, rfl⟩
  obtain ⟨y, hy⟩ : ∃ x, recsI b 20 = x := ⟨_, rfl⟩
  obtain ⟨z, hz⟩ : ∃ x, recsI c 20 = x := ⟨_, rfl⟩
  have lx := recsI_len a
  have ly := recsI_len b
  have lz := recsI_len c
  have ox := recsI_ok a
  have oy := recsI_ok b
  have oz := recsI_ok c
  rw [hx] at ca lx ox
  rw [hy] at cb ly oy
  rw [hz] at cc lz oz
  have l1 := uR_len (x ++ y)
  have l2 := uR_len (y ++ z)
  have l3 := uR_len (y ++ x)
  have l4 := uR_len (uR (x ++ y) ++ z)
  have l5 := uR_len (x ++ uR (y ++ z))
  have l6 := uR_len (uR (x ++ y) ++ x)
  simp only [List.length_append] at l1 l2 l3 l4 l5 l6
  have o1 := uR_ok (app_ok ox oy)
  have o2 := uR_ok (app_ok oy oz)
  have o4 := uR_ok (app_ok o1 oz)
  have o6 := uR_ok (app_ok o1 ox)
  have e1 : uR (x ++ y) = uR (y ++ x) := uR_eq fun r => by simp [or_comm]
  have e2 : uR (uR (x ++ y) ++ z) = uR (x ++ uR (y ++ z)) := uR_eq fun r => by simp [uR_mem, or_assoc]
  have e3 : uR (uR (x ++ y) ++ x) = uR (x ++ y) := uR_eq fun r => by simp [uR_mem]; grind
  have k1 := add_u x y (by omega) ox oy
  have k2 := rAdd_u x y (by omega) ox oy
  have k3 := add_u y x (by omega) oy ox
  have k4 := add_u (uR (x ++ y)) z (by omega) o1 oz
  have k5 := add_u y z (by omega) oy oz
  have k6 := add_u x (uR (y ++ z)) (by omega) ox o2
  have k7 := add_u (uR (x ++ y)) x (by omega) o1 ox
  have s1 := sameRecords_pure (uR (x ++ y)) (uR (x ++ y)) (by omega) o1
  have s2 := sameRecords_pure (uR (uR (x ++ y) ++ z)) (uR (uR (x ++ y) ++ z)) (by omega) o4
  rw [← e1] at k3
  rw [← e2] at k6
  rw [e3] at k7
  simp only [decide_true] at s1 s2
  simp
  refine callW_of (by simp) ?_
  simp
  refine (ca).run true (by simp) ?_
  simp
  refine callW_of (by simp) ?_
  simp
  refine (cb).run true (by simp) ?_
  simp
  refine callW_of (by simp) ?_
  simp
  refine (cc).run true (by simp) ?_
  simp
  refine callW_of (by simp) ?_
  simp
  refine (k1).run true (by simp) ?_
  simp
  refine callW_of (by simp) ?_
  simp
  refine (k2).run true (by simp) ?_
  simp
  refine callW_of (by simp) ?_
  simp
  refine (s1).run true (by simp) ?_
  simp
  refine callW_of (by simp) ?_
  simp
  refine (k3).run true (by simp) ?_
  simp
  refine callW_of (by simp) ?_
  simp
  refine (s1).run true (by simp) ?_
  simp
  refine callW_of (by simp) ?_
  simp
  refine (k4).run true (by simp) ?_
  simp
  refine callW_of (by simp) ?_
  simp
  refine (k5).run true (by simp) ?_
  simp
  refine callW_of (by simp) ?_
  simp
  refine (k6).run true (by simp) ?_
  simp
  refine callW_of (by simp) ?_
  simp
  refine (s2).run true (by simp) ?_
  simp
  refine callW_of (by simp) ?_
  simp
  refine (k7).run true (by simp) ?_
  simp
  refine callW_of (by simp) ?_
  simp
  refine (s1).run true (by simp) ?_
  simp
  refine callW_of (by simp) ?_
  simp
  refine (awake_pure).run true (by simp) ?_
  simp
/-- The alternatives of a record's values, backwards: those from i on. -/
def backAlts (l : List Val) : Nat → List AltV
  | 0 => []
  | k + 1 => backAlts l k ++ (match l[l.length - (k + 1)]? with | some v => [⟨1048585 - ((l.length - (k + 1) : Nat) : Int), v⟩] | none => [])
theorem backAlts_len (l : List Val) : ∀ k, k ≤ l.length → (backAlts l k).length = k
  | 0, _ => rfl
  | k + 1, h => by
    have hk : l.length - (k + 1) < l.length := by omega
    simp [backAlts, backAlts_len l k (by omega), hk]
theorem backAlts_snoc (l : List Val) (i : Nat) (h : i < l.length) : backAlts l (l.length - i) = backAlts l (l.length - (i + 1)) ++ [⟨1048585 - (i : Int), l[i]⟩] := by
  have e : l.length - i = (l.length - (i + 1)) + 1 := by omega
  have e2 : l.length - (l.length - (i + 1) + 1) = i := by omega
  rw [e]
  show backAlts l (l.length - (i + 1)) ++ _ = _
  rw [e2]
  simp [h]
/-- The loop's state: the values from i on are taken (m: how many are left, as a number). -/
def BackI (x : List Rec) (y : Rec) (kd : Int) (F : Fr) (s : St) : Prop :=
  ∃ (m : Nat) (K : Nat) (rest : List (Nat × List AV)), m ≤ y.src.length ∧ F 13 = .sl 43 7 .ro (x.map encR) ∧ F 14 = .ptr 0 0 ∧ F 15 = .ptr 1 0 ∧ F 16 = .int .i64 ((m : Int) - 1) ∧
  s.box = (40, [.int .i64 kd, .int .i64 y.id, .int .i64 3, .so K 0 (y.src.length - m), .sl 0 0 .nil []]) :: (43, [.int .i64 y.id, .int .i64 y.field, .sl 23 4 .ro (y.src.map encV), .int .i64 y.to.n, .bool y.to.flag, .str y.to.text, .int .i64 y.to.ref]) :: rest ∧
  s.at K = some (36, 5, (backAlts y.src (y.src.length - m)).map encA)
theorem lawFinds_pure (l : List DrawV) (kind id a b c : Int) : Pure Try.prog 5 [.sl 51 4 .ro (l.map encD), .int .i64 kind, .int .i64 id, .int .i64 a, .int .i64 b, .int .i64 c] [] (.bool true) := by
  refine Pure.of_run hmix Try.func5 (by kernel_rfl) rfl ⟨Try.ntmps5, by simp⟩ ?_
  simp
  have cx := records_pure l
  obtain ⟨x, hx⟩ : ∃ x, recsI l 20 = x := ⟨_, rfl⟩
  have lx := recsI_len l
  have ox := recsI_ok l
  rw [hx] at cx lx ox
  refine callW_of (by simp) ?_
  simp
  refine (cx).run true (by simp) ?_
  simp
  refine callW_of (by simp) ?_
  simp
  refine (Mod_pure kind 8 (by omega)).run true (by simp) ?_
  simp
  refine callW_of (by simp) ?_
  simp
  refine (Id_pure id 1 (by omega)).run true (by simp) ?_
  simp
  refine callW_of (by simp) ?_
  simp
  refine (value_pure a).run true (by simp) ?_
  simp
  refine callW_of (by simp) ?_
  simp
  refine (value_pure b).run true (by simp) ?_
  simp
  refine callW_of (by simp) ?_
  simp
  refine (value_pure c).run true (by simp) ?_
  simp
  obtain ⟨kd, hkd⟩ : ∃ kd, IntKind.i64.wrap (1 + IntKind.i64.wrap ((modE kind 8).tdiv 7)) = kd := ⟨_, rfl⟩
  -- a region and its state: both answers are one
  have fin : ∀ (r : Reg), r.alts.length < 1000000000 → ∃ (p : Val × Bool), Pure Try.prog 16 [.sl 43 7 .ro (x.map encR), encG r] [] (.tup [encV p.1, .bool p.2]) ∧ Pure Try.prog 17 [.sl 43 7 .ro (x.map encR), encG r] [] (.tup [encV p.1, .bool p.2]) := fun r hr =>
    ⟨findF x r, Find_pure x r (by omega) ox hr, rFind_pure x r (by omega) ox hr⟩
  refine gR_mk (fun h => ?_) (fun h => ?_) <;> simp [h]
  · simp only [decide_eq_true_eq] at h
    refine callW_of (by simp) ?_
    simp
    refine (Mod_pure kind 3 (by omega)).run true (by simp) ?_
    simp
    refine condR_mk (fun h1 => ?_) (fun h1 => ?_) <;> simp
    · refine callW_of (by simp) ?_
      simp
      refine (Mod_pure id x.length (by omega)).run true (by simp) ?_
      simp
      obtain ⟨q, hq⟩ : ∃ q : Nat, modE id x.length = (q : Int) ∧ q < x.length := by
        have h2 := modE_lo id x.length
        have h3 := modE_hi id x.length (by omega)
        exact ⟨(modE id x.length).toNat, by omega, by omega⟩
      obtain ⟨hq, hqx⟩ := hq
      obtain ⟨y, hy⟩ : ∃ y, x[q] = y := ⟨_, rfl⟩
      simp [hq, hqx, hy]
      have hyl : y.src.length < 1000000000 := by have := ox y (by rw [← hy]; exact List.getElem_mem hqx); exact this
      have hw16 : IntKind.i64.wrap ((y.src.length : Int) - 1) = (y.src.length : Int) - 1 := wrap_in _ (by omega) (by omega)
      refine run_loop (BackI x y kd) (fun F _ => match F 16 with | .int _ z => (z + 1).toNat | _ => 0) (.by (Weak.adoptBox (b := 0) (j := 3) (by rfl) (by rfl) 36 5 (by omega)) (.here ⟨y.src.length, 1, [], by omega, by simp, by simp, by simp, by simp [hw16], by simp [hkd], by simp [backAlts, St.at, St.new, kill]⟩)) ?_
      rintro F s ⟨m, K, rest, hm, h13, h14, h15, h16, hs, hK⟩
      simp [h13, h14, h15, h16]
      refine condR_mk (fun g => ?_) (fun g => ?_) <;> simp only [decide_eq_true_eq, decide_eq_false_iff_not] at g <;> simp [h13, h14, h15, h16]
      · obtain ⟨k, rfl⟩ : ∃ k, m = k + 1 := ⟨m - 1, by omega⟩
        have hz : ((k + 1 : Nat) : Int) - 1 = (k : Int) := by omega
        have hks : k < y.src.length := by omega
        have hw1 : IntKind.i64.wrap (1048585 - (k : Int)) = 1048585 - (k : Int) := wrap_in _ (by omega) (by omega)
        have hw2 : IntKind.i64.wrap ((k : Int) - 1) = (k : Int) - 1 := wrap_in _ (by omega) (by omega)
        have hKl := at_lt hK
        have q0 : ¬ K = s.row.length := by omega
        have q1 : ¬ s.row.length = K := by omega
        have e := backAlts_snoc y.src k hks
        have hbl := backAlts_len y.src (y.src.length - (k + 1)) (by omega)
        rw [hz] at h16
        refine RDraw_mk [11, 13] (.go 0 .p (.go 2 .p (.go 3 .p (.go 4 .p (.go 6 .p (.go 1 .l (.go 5 .l (.go 7 .p (.go 8 .l (.go 9 .p (.go 10 .c (.go 11 .x (.go 12 .p (.go 13 .x .nil)))))))))))))) (by kernel_rfl) ?_
        simp [hks, hs, hK, h13, h14, h15, h16, hw1, hw2, q0, q1, hbl]
        rw [if_pos (by omega)]
        simp [hks, hs, hK, h13, h14, h15, h16, hw1, hw2, q0, q1, hbl]
        have e9 : y.src.length - (k + 1) + 1 = y.src.length - k := by omega
        refine .here ⟨⟨k, s.row.length + 1, rest, by omega, by simp [h13], by simp [h14], by simp [h15], by simp, by rw [← e9], ?_⟩, ?_⟩
        · rw [e]; simp [St.at, St.new, kill]
        · simp [h16]
      · have : m = 0 := by omega
        subst this
        have hbl := backAlts_len y.src y.src.length (Nat.le_refl _)
        simp only [Nat.sub_zero] at hs hK
        obtain ⟨p, c1, c2⟩ := fin ⟨kd, y.id, 3, backAlts y.src y.src.length, []⟩ (by simp only; omega)
        have hKl := at_lt hK
        simp [hs, hK, h13, h14, h15, h16]
        refine callW_of (by simp) ?_
        simp [hs, hK, h13, h14, hbl]
        refine (c1).run false (by simp [hs, hK, h13, h14, hbl]) ?_
        simp [hs, hK, h13, h14, hbl]
        refine callW_of (by simp) ?_
        simp [hs, hK, h13, h14, hbl]
        refine (c2).run false (by simp [hs, hK, h13, h14, hbl]) ?_
        simp [hs, hK, h13, h14, hbl]
        refine callW_of (by simp) ?_
        simp
        refine (awake_pure).run true (by simp) ?_
        simp
    · obtain ⟨p, c1, c2⟩ := fin ⟨kd, idF id 1, 3, [⟨1048577, valF a⟩, ⟨1048578, valF b⟩, ⟨1048579, valF c⟩], []⟩ (by simp)
      refine callW_of (by simp) ?_
      simp [hkd]
      refine (c1).run false (by simp [hkd]) ?_
      simp [hkd]
      refine callW_of (by simp) ?_
      simp [hkd]
      refine (c2).run false (by simp [hkd]) ?_
      simp [hkd]
      refine callW_of (by simp) ?_
      simp
      refine (awake_pure).run true (by simp) ?_
      simp
  · obtain ⟨p, c1, c2⟩ := fin ⟨kd, idF id 1, 3, [⟨1048577, valF a⟩, ⟨1048578, valF b⟩, ⟨1048579, valF c⟩], []⟩ (by simp)
    refine callW_of (by simp) ?_
    simp [hkd]
    refine (c1).run false (by simp [hkd]) ?_
    simp [hkd]
    refine callW_of (by simp) ?_
    simp [hkd]
    refine (c2).run false (by simp [hkd]) ?_
    simp [hkd]
    refine callW_of (by simp) ?_
    simp
    refine (awake_pure).run true (by simp) ?_
    simp
end Go.Proofs.YtknbhgcjgkejiaaV
