/- Going through two lists of writes. -/
import Derived.Test.YtfodigfliiemeaaB3
namespace Go.Proofs.YtfodigfliiemeaaA
open Go.RowKit Go.Proofs
theorem T37 : tabOf Try.prog 37 = some ⟨.func #[36, 36] #[] false, 1, 8, [.nilFunc], true⟩ := by kernel_rfl
theorem T38 : tabOf Try.prog 38 = some ⟨.func #[36] #[] false, 1, 8, [.nilFunc], true⟩ := by kernel_rfl
theorem T40 : tabOf Try.prog 40 = some ⟨.struct #[⟨"first", 38, 0, false, "", "semvcs/commute", 0⟩, ⟨"second", 38, 1, false, "", "semvcs/commute", 8⟩, ⟨"both", 37, 2, false, "", "semvcs/commute", 16⟩], 3, 24, [.nilFunc, .nilFunc, .nilFunc], true⟩ := by kernel_rfl
theorem neq37 (o : Option (Nat × List AV)) : binAV (tabOf Try.prog) .neq 37 (fnO o) .nilfn = some (.bool o.isSome) := fnO_neq o (a := #[36, 36]) (b := #[]) (v := false) (by simp [kindOf, T37])
theorem neq38 (o : Option (Nat × List AV)) : binAV (tabOf Try.prog) .neq 38 (fnO o) .nilfn = some (.bool o.isSome) := fnO_neq o (a := #[36]) (b := #[]) (v := false) (by simp [kindOf, T38])
attribute [local simp ↓] run_nil run_seq run_skip run_region run_draw run_cond run_block run_exit run_ret run_b run_l rexit_c rexit_l rexit_b rops_nil rplan_nil rops_cons rops_guard rplan_cons condR_true condR_false
attribute [local simp] planR_some planR_guard rrest_o rrest_p gS_some gR_tt gR_ff gR_ft gR_tf gR_tup valP_some valP_none valE_some valE_none valS_some opR_move opR_assign opR_pick opR_binOp opR_unOp opR_convert opR_extract opR_field opR_fieldAddr opR_indexAddr opR_index opR_slice opR_makeFunc opR_build opR_load opR_loadl opR_p opR_store opR_alloc opR_box opR_buildSlice opR_makeSlice opR_allocc opR_boxc opR_buildSlicec opR_makeSlicec opR_len opR_append opR_call opR_callc
attribute [local simp] evP boxAV allocAV okCells_agg okCells_sl okCells_int okCells_bool okCells_str okCells_nilp okCells_nilfn okCells_ptr okCells_fn loadAV storeAV partAV partAV0 fieldAV fieldAddrAV indexAddrAV indexAV lenAV sliceAV boundAV fieldAt? elemOf? kindOf look cst updO upd dstOk binAV_int binAV_str binAV_bool binAV_fn binAV_nilfn binAV_agg binInt binStr isShift shiftInt unAV convAV TD.agg RetQ resAV resAVs resAV1 F0 conv_int conv_bool conv_str AV.allT AV.ret AV.allTL AV.retL St.empty fnOf_fn gslot buildAV fillAV placesAV buildSliceAV makeSliceAV fillE zeroElem? Tok.cut Tok.frz Tok.ok Tok.okR Tok.ren Tok.noRo Tok.shift addToks_zero live_last' new_box Tok.fixed le_refl leL_refl le_agg le_tup le_int le_bool le_str le_nil leL_nil leL_cons
attribute [local simp] T3 T4 T9 T22 T34 T36 T37 T38 T40 T46 eqV10 eqC10 eqOp zeroV_eq cell_eq allTL_cells retL_cells
attribute [local simp high] neq37 neq38 fnOf_fnO okCells_fnO
theorem cord_pure (a b : Cell) (ha : bnd a) (hb : bnd b) : Pure Try.prog 35 [encCell a, encCell b] 0 (.int .i64 (ordI a b)) := by
  have h := corder_pure a b
  obtain ⟨h1, h2, h3, h4⟩ := ha
  obtain ⟨k1, k2, k3, k4⟩ := hb
  rw [wrap_in _ (by omega) (by omega), wrap_in _ (by omega) (by omega)] at h
  exact h
section
variable {α : Type} {J : Nat → α → St → Prop} {q M : Nat} {f1 f2 : Cell → α → α} {f3 : Cell → Cell → α → α} {o1 o2 o3 : Option (Nat × List AV)}
/-- What a function of one cell does. -/
def Does1 (J : Nat → α → St → Prop) (q M : Nat) (f : Cell → α → α) : Option (Nat × List AV) → Prop
  | none => ∀ c x, f c x = x
  | some p => ∀ n x s c, n < M → J n x s → q < s.box.length → Fsound Try.prog p.1 s ([encCell c] ++ p.2) fun s' _ => J (n + 1) (f c x) s' ∧ Keep q s s'
def Does2 (J : Nat → α → St → Prop) (q M : Nat) (f : Cell → Cell → α → α) : Option (Nat × List AV) → Prop
  | none => ∀ c d x, f c d x = x
  | some p => ∀ n x s c d, n < M → J n x s → q < s.box.length → Fsound Try.prog p.1 s ([encCell c, encCell d] ++ p.2) fun s' _ => J (n + 1) (f c d x) s' ∧ Keep q s s'
theorem visit_run (hJ : ∀ n x s y, q < s.box.length → J n x s → J n x ⟨s.box ++ [y], s.tok⟩) (h1 : Does1 J q M f1 o1) (h2 : Does1 J q M f2 o2) (h3 : Does2 J q M f3 o3) (a b : List Cell) (ha : a.length < 1000000) (hb : b.length < 1000000) (hM : a.length + b.length ≤ M)
    (hab : ∀ c ∈ a, bnd c) (hbb : ∀ c ∈ b, bnd c) (x : α) (s : St) (hq : q < s.box.length) (hx : J 0 x s) :
    Fsound Try.prog 22 s [.agg [fnO o1, fnO o2, fnO o3], slC .ro a, slC .ro b] fun s' _ => (∃ n, n ≤ a.length + b.length ∧ J n (vis f1 f2 f3 a b x) s') ∧ Keep q s s' := by
  refine Fsound.of_run hmix Try.func22 (by kernel_rfl) rfl ⟨Try.ntmps22, by simp⟩ ?_
  simp
  refine run_loop (fun F s' => ∃ (i k n : Nat) (y : α), i ≤ a.length ∧ k ≤ b.length ∧ F 1 = slC .ro a ∧ F 2 = slC .ro b ∧ F 3 = .ptr s.box.length 0 ∧ F 6 = .int .i64 i ∧ F 7 = .int .i64 k ∧ s'.box[s.box.length]? = some (40, [fnO o1, fnO o2, fnO o3]) ∧ Keep q s s' ∧ n ≤ i + k ∧ J n y s' ∧ vis f1 f2 f3 (a.drop i) (b.drop k) y = vis f1 f2 f3 a b x) (fun F _ => a.length + b.length - (F 6).num - (F 7).num)
    ⟨0, 0, 0, x, by simp, by simp, by simp, by simp, by simp, by simp, by simp, by simp, Keep.grow .., by simp, hJ _ _ _ _ hq hx, by simp⟩ ?_
  rintro F s' ⟨i, k, n, y, hi, hk, g1, g2, g3, g6, g7, hbx, hkp, hn, hy, hv⟩
  have hlt : s.box.length < s'.box.length := (List.getElem?_eq_some_iff.1 hbx).1
  by_cases hi' : i < a.length
  · obtain ⟨c, hc⟩ : ∃ c, a[i] = c := ⟨_, rfl⟩
    have hda : a.drop i = c :: a.drop (i + 1) := by rw [List.drop_eq_getElem_cons hi', hc]
    by_cases hk' : k < b.length
    · obtain ⟨d, hd⟩ : ∃ d, b[k] = d := ⟨_, rfl⟩
      have hdb : b.drop k = d :: b.drop (k + 1) := by rw [List.drop_eq_getElem_cons hk', hd]
      have hne : ((k : Int) == (b.length : Int)) = false := by simp; omega
      have hnei : ((i : Int) == (a.length : Int)) = false := by simp; omega
      simp [g1, g2, g6, g7, hi']
      refine RDraw_mk [] [(0, .p), (1, .p), (2, .p), (3, .p), (4, .p), (5, .p), (6, .p), (7, .p), (8, .p), (9, .p), (10, .p), (11, .p), (12, .p), (14, .p), (15, .p), (16, .p), (13, .l), (17, .l), (18, .c), (19, .p), (20, .p), (21, .p), (22, .p)] (by kernel_rfl) ?_
      simp [g1, g2, g6, g7, hi', hk', hne, hc, hd, encCell]
      refine (cord_pure c d (hab c (hc ▸ List.getElem_mem hi')) (hbb d (hd ▸ List.getElem_mem hk'))).run rfl (by simp [encCell]) (by simp [encCell]) (by simp) ?_
      simp [ordI_neg]
      refine condR_mk (fun h4 => ?_) (fun h4 => ?_)
      · simp [g3, hbx]
        refine condR_mk (fun h5 => ?_) (fun h5 => ?_)
        · obtain ⟨p, rfl⟩ := Option.isSome_iff_exists.1 h5
          simp
          refine RDraw_mk [6] [(0, .p), (2, .p), (3, .p), (4, .p), (1, .l), (5, .l), (6, .x)] (by kernel_rfl) ?_
          simp [g1, g2, g3, g6, g7, hbx, hi', hc, encCell]
          refine (h1 n y s' c (by omega) hy (by omega)).run (by simp) fun s'' r hR => ?_
          obtain ⟨hJ', hK'⟩ := hR
          have hbx' := (hK'.2 _ hlt (by omega)).trans hbx
          simp [g6, wrap_suc i (by omega)]
          refine ⟨⟨i + 1, by omega, k, by omega, g1, g2, g3, by simp, g7, hbx', hkp.trans hK', n + 1, by omega, _, hJ', ?_⟩, ?_⟩
          · rw [← hv, hda, hdb]
            simp [vis, h4]
          · simp [g7, AV.num]
            omega
        · have hnone : o1 = none := by simpa using h5
          subst hnone
          simp [g6, wrap_suc i (by omega)]
          refine ⟨⟨i + 1, by omega, k, by omega, g1, g2, g3, by simp, g7, hbx, hkp, n, by omega, y, hy, ?_⟩, ?_⟩
          · have e := h1 c y
            rw [← hv, hda, hdb]
            simp [vis, h4, e]
          · simp [g7, AV.num]
            omega
      · simp
        refine RDraw_mk [] [(0, .p), (1, .p), (2, .p), (3, .p), (4, .p), (5, .p), (6, .p), (7, .p), (9, .p), (10, .p), (11, .p), (8, .l), (12, .l), (13, .c), (14, .p), (15, .p), (16, .p)] (by kernel_rfl) ?_
        simp [g1, g2, g6, g7, hi', hk', hnei, hc, hd, encCell]
        refine (cord_pure c d (hab c (hc ▸ List.getElem_mem hi')) (hbb d (hd ▸ List.getElem_mem hk'))).run rfl (by simp [encCell]) (by simp [encCell]) (by simp) ?_
        simp [ordI_pos]
        refine condR_mk (fun h6 => ?_) (fun h6 => ?_)
        · simp [g3, hbx]
          refine condR_mk (fun h5 => ?_) (fun h5 => ?_)
          · obtain ⟨p, rfl⟩ := Option.isSome_iff_exists.1 h5
            simp
            refine RDraw_mk [6] [(0, .p), (2, .p), (3, .p), (4, .p), (1, .l), (5, .l), (6, .x)] (by kernel_rfl) ?_
            simp [g1, g2, g3, g6, g7, hbx, hk', hd, encCell]
            refine (h2 n y s' d (by omega) hy (by omega)).run (by simp) fun s'' r hR => ?_
            obtain ⟨hJ', hK'⟩ := hR
            have hbx' := (hK'.2 _ hlt (by omega)).trans hbx
            simp [g7, wrap_suc k (by omega)]
            refine ⟨⟨i, by omega, k + 1, by omega, g1, g2, g3, g6, by simp, hbx', hkp.trans hK', n + 1, by omega, _, hJ', ?_⟩, ?_⟩
            · rw [← hv, hda, hdb]
              simp [vis, h4, h6]
            · simp [g6, AV.num]
              omega
          · have hnone : o2 = none := by simpa using h5
            subst hnone
            simp [g7, wrap_suc k (by omega)]
            refine ⟨⟨i, by omega, k + 1, by omega, g1, g2, g3, g6, by simp, hbx, hkp, n, by omega, y, hy, ?_⟩, ?_⟩
            · have e := h2 d y
              rw [← hv, hda, hdb]
              simp [vis, h4, h6, e]
            · simp [g6, AV.num]
              omega
        · simp
          simp [g3, hbx]
          refine condR_mk (fun h5 => ?_) (fun h5 => ?_)
          · obtain ⟨p, rfl⟩ := Option.isSome_iff_exists.1 h5
            simp
            refine RDraw_mk [10] [(0, .p), (2, .p), (3, .p), (4, .p), (6, .p), (7, .p), (8, .p), (1, .l), (5, .l), (9, .l), (10, .x)] (by kernel_rfl) ?_
            simp [g1, g2, g3, g6, g7, hbx, hi', hk', hc, hd, encCell]
            refine (h3 n y s' c d (by omega) hy (by omega)).run (by simp) fun s'' r hR => ?_
            obtain ⟨hJ', hK'⟩ := hR
            have hbx' := (hK'.2 _ hlt (by omega)).trans hbx
            simp [g6, wrap_suc i (by omega), g7, wrap_suc k (by omega)]
            refine ⟨⟨i + 1, by omega, k + 1, by omega, g1, g2, g3, by simp, by simp, hbx', hkp.trans hK', n + 1, by omega, _, hJ', ?_⟩, ?_⟩
            · rw [← hv, hda, hdb]
              simp [vis, h4, h6]
            · simp [AV.num]
              omega
          · have hnone : o3 = none := by simpa using h5
            subst hnone
            simp [g6, wrap_suc i (by omega), g7, wrap_suc k (by omega)]
            refine ⟨⟨i + 1, by omega, k + 1, by omega, g1, g2, g3, by simp, by simp, hbx, hkp, n, by omega, y, hy, ?_⟩, ?_⟩
            · have e := h3 c d y
              rw [← hv, hda, hdb]
              simp [vis, h4, h6, e]
            · simp [AV.num]
              omega
    · have hkb : k = b.length := by omega
      have hdb : b.drop k = [] := by simp [hkb]
      simp [g1, g2, g6, g7, hi', hk']
      refine RDraw_mk [] [(0, .p), (1, .p), (2, .p), (3, .p), (4, .p), (5, .p), (6, .p), (7, .p), (8, .p), (9, .p), (10, .p), (11, .p), (12, .p), (14, .p), (15, .p), (16, .p), (13, .l), (17, .l), (18, .c), (19, .p), (20, .p), (21, .p), (22, .p)] (by kernel_rfl) ?_
      simp [g1, g2, g6, g7, hi', hkb, hc, encCell]
      simp only [hkb] at g7 hn hk hk'
      simp [hkb, g3, hbx]
      refine condR_mk (fun h5 => ?_) (fun h5 => ?_)
      · obtain ⟨p, rfl⟩ := Option.isSome_iff_exists.1 h5
        simp
        refine RDraw_mk [6] [(0, .p), (2, .p), (3, .p), (4, .p), (1, .l), (5, .l), (6, .x)] (by kernel_rfl) ?_
        simp [g1, g2, g3, g6, g7, hbx, hi', hc, encCell]
        refine (h1 n y s' c (by omega) hy (by omega)).run (by simp) fun s'' r hR => ?_
        obtain ⟨hJ', hK'⟩ := hR
        have hbx' := (hK'.2 _ hlt (by omega)).trans hbx
        simp [g6, wrap_suc i (by omega)]
        refine ⟨⟨i + 1, by omega, b.length, by omega, g1, g2, g3, by simp, g7, hbx', hkp.trans hK', n + 1, by omega, _, hJ', ?_⟩, ?_⟩
        · rw [← hv, hda, hdb]
          simp [vis]
        · simp [g7, AV.num]
          omega
      · have hnone : o1 = none := by simpa using h5
        subst hnone
        simp [g6, wrap_suc i (by omega)]
        refine ⟨⟨i + 1, by omega, b.length, by omega, g1, g2, g3, by simp, g7, hbx, hkp, n, by omega, y, hy, ?_⟩, ?_⟩
        · have e := h1 c y
          rw [← hv, hda, hdb]
          simp [vis, e]
        · simp [g7, AV.num]
          omega
  · have hia : i = a.length := by omega
    have hda : a.drop i = [] := by simp [hia]
    by_cases hk' : k < b.length
    · obtain ⟨d, hd⟩ : ∃ d, b[k] = d := ⟨_, rfl⟩
      have hdb : b.drop k = d :: b.drop (k + 1) := by rw [List.drop_eq_getElem_cons hk', hd]
      have hne : ((k : Int) == (b.length : Int)) = false := by simp; omega
      simp [g1, g2, g6, g7, hi', hk']
      refine RDraw_mk [] [(0, .p), (1, .p), (2, .p), (3, .p), (4, .p), (5, .p), (6, .p), (7, .p), (8, .p), (9, .p), (10, .p), (11, .p), (12, .p), (14, .p), (15, .p), (16, .p), (13, .l), (17, .l), (18, .c), (19, .p), (20, .p), (21, .p), (22, .p)] (by kernel_rfl) ?_
      simp [g1, g2, g6, g7, hi', hk', hne, hd, encCell]
      refine RDraw_mk [] [(0, .p), (1, .p), (2, .p), (3, .p), (4, .p), (5, .p), (6, .p), (7, .p), (9, .p), (10, .p), (11, .p), (8, .l), (12, .l), (13, .c), (14, .p), (15, .p), (16, .p)] (by kernel_rfl) ?_
      simp [g1, g2, g6, g7, hia]
      simp only [hia] at g6 hn hi hi'
      simp [hia, g3, hbx]
      refine condR_mk (fun h5 => ?_) (fun h5 => ?_)
      · obtain ⟨p, rfl⟩ := Option.isSome_iff_exists.1 h5
        simp
        refine RDraw_mk [6] [(0, .p), (2, .p), (3, .p), (4, .p), (1, .l), (5, .l), (6, .x)] (by kernel_rfl) ?_
        simp [g1, g2, g3, g6, g7, hbx, hk', hd, encCell]
        refine (h2 n y s' d (by omega) hy (by omega)).run (by simp) fun s'' r hR => ?_
        obtain ⟨hJ', hK'⟩ := hR
        have hbx' := (hK'.2 _ hlt (by omega)).trans hbx
        simp [g7, wrap_suc k (by omega)]
        refine ⟨⟨a.length, by omega, k + 1, by omega, g1, g2, g3, g6, by simp, hbx', hkp.trans hK', n + 1, by omega, _, hJ', ?_⟩, ?_⟩
        · rw [← hv, hda, hdb]
          simp [vis]
        · simp [g6, AV.num]
          omega
      · have hnone : o2 = none := by simpa using h5
        subst hnone
        simp [g7, wrap_suc k (by omega)]
        refine ⟨⟨a.length, by omega, k + 1, by omega, g1, g2, g3, g6, by simp, hbx, hkp, n, by omega, y, hy, ?_⟩, ?_⟩
        · have e := h2 d y
          rw [← hv, hda, hdb]
          simp [vis, e]
        · simp [g6, AV.num]
          omega
    · simp [g1, g2, g6, g7, hi', hk']
      have hdb : b.drop k = [] := by simp; omega
      rw [hda, hdb] at hv
      simp [vis] at hv
      rw [← hv]
      exact ⟨⟨n, by omega, hy⟩, hkp⟩
end
end Go.Proofs.YtfodigfliiemeaaA
