/- Contracts of lists that are grown: Over, Rest, Put. -/
import Derived.Test.YtfodigfliiemeaaB2
namespace Go.Proofs.YtfodigfliiemeaaA
open Go.RowKit Go.Proofs
attribute [local simp ↓] run_nil run_seq run_skip run_region run_draw run_cond run_block run_exit run_ret run_b run_l rexit_c rexit_l rexit_b rops_nil rplan_nil rops_cons rops_guard rplan_cons condR_true condR_false
attribute [local simp] planR_some planR_guard rrest_o rrest_p gS_some gR_tt gR_ff gR_ft gR_tf gR_tup valP_some valP_none valE_some valE_none valS_some opR_move opR_assign opR_pick opR_binOp opR_unOp opR_convert opR_extract opR_field opR_fieldAddr opR_indexAddr opR_index opR_slice opR_makeFunc opR_build opR_load opR_loadl opR_p opR_store opR_alloc opR_box opR_buildSlice opR_makeSlice opR_allocc opR_boxc opR_buildSlicec opR_makeSlicec opR_len opR_append opR_call opR_callc
attribute [local simp] evP boxAV allocAV okCells_agg okCells_sl okCells_int okCells_bool okCells_str okCells_nilp okCells_nilfn okCells_ptr okCells_fn loadAV storeAV partAV partAV0 fieldAV fieldAddrAV indexAddrAV indexAV lenAV sliceAV boundAV fieldAt? elemOf? kindOf look cst updO upd dstOk binAV_int binAV_str binAV_bool binAV_fn binAV_nilfn binAV_agg binInt binStr isShift shiftInt unAV convAV TD.agg RetQ resAV resAVs resAV1 F0 conv_int conv_bool conv_str AV.allT AV.ret AV.allTL AV.retL St.empty fnOf_fn gslot buildAV fillAV placesAV buildSliceAV makeSliceAV fillE zeroElem? Tok.cut Tok.frz Tok.ok Tok.okR Tok.ren Tok.noRo Tok.shift addToks_zero live_last' new_box Tok.fixed le_refl leL_refl le_agg le_tup le_int le_bool le_str le_nil leL_nil leL_cons
attribute [local simp] T3 T4 T9 T22 T34 T36 T46 eqV10 eqC10 eqOp zeroV_eq cell_eq allTL_cells retL_cells
theorem writes12_pure (l : List Cell) (hl : l.length < 1000000) : Pure Try.prog 23 [slC .ro l] 0 (.bool (wrB l)) := by
  refine Pure.of_run hmix Try.func23 (by kernel_rfl) rfl ⟨Try.ntmps23, by simp⟩ ?_
  simp
  refine run_loop (fun F s => ∃ i : Nat, i ≤ l.length ∧ F 0 = slC .ro l ∧ F 3 = .int .i64 i ∧ wrTo l i = true) (fun F _ => l.length - (F 3).num) ⟨0, by simp, by simp, by simp, rfl⟩ ?_
  rintro F s ⟨i, hi, h0, h3, hw⟩
  simp [h0, h3]
  refine condR_mk (fun h => ?_) (fun h => ?_)
  · simp only [decide_eq_true_eq] at h
    obtain ⟨c, hc⟩ : ∃ c, l[i] = c := ⟨_, rfl⟩
    simp
    refine RDraw_mk [] [(0, .p), (1, .p), (2, .p), (3, .p), (4, .l), (5, .c), (6, .p), (7, .p), (8, .p), (9, .p), (10, .p), (11, .p), (12, .l), (13, .p), (14, .p), (15, .p), (16, .p), (17, .p), (18, .p), (19, .p), (20, .l), (21, .p), (22, .p), (23, .p), (24, .p), (25, .p), (26, .p), (27, .p), (28, .p), (29, .p), (30, .p), (32, .p), (33, .p), (34, .p), (31, .l), (35, .l), (36, .c), (37, .p), (38, .p), (39, .p)] (by kernel_rfl) ?_
    simp [h0, h3, h, hc, encCell]
    refine (valid10_pure c.id).run rfl (by simp) (by simp) (by simp) ?_
    simp
    refine gR_mk (fun h1 => ?_) (fun h1 => ?_) <;> simp [h0, h3, h, hc, encCell, h1]
    · refine wrTo_false (k := i) ?_ h
      simp at h1
      simp [okAt, h, hc, h1]
    · refine gR_mk (fun h2 => ?_) (fun h2 => ?_) <;> simp [h0, h3, h, hc, encCell, h1, h2]
      · refine wrTo_false (k := i) ?_ h
        simp at h2
        simp [okAt, h, hc]
        omega
      · refine gR_mk (fun h4 => ?_) (fun h4 => ?_) <;> simp [h0, h3, h, hc, encCell, h1, h2, h4]
        · refine wrTo_false (k := i) ?_ h
          simp at h4
          simp [okAt, h, hc]
          omega
        · refine gR_mk (fun h5 => ?_) (fun h5 => ?_) <;> simp [h0, h3, h, hc, encCell, h1, h2, h4, h5]
          · simp only [decide_eq_true_eq] at h5
            obtain ⟨j, rfl⟩ : ∃ j, i = j + 1 := ⟨i - 1, by omega⟩
            have h9 : j < l.length := by omega
            obtain ⟨p, hp⟩ : ∃ p, l[j] = p := ⟨_, rfl⟩
            have e1 : (0 : Int) ≤ (j : Int) + 1 := by omega
            have e2 : (j : Int) + 1 < l.length := by omega
            simp [h0, h3, h, hc, encCell, wrap_nat j (by omega), h9, hp, e1, e2]
            refine (ahead_pure p c).run rfl (by simp [encCell]) (by simp [encCell]) (by simp) ?_
            simp
            refine condR_mk (fun h5 => ?_) (fun h5 => ?_)
            · simp
              refine wrTo_false (k := j + 1) ?_ h
              simp only [ahead, Bool.not_eq_true', decide_eq_false_iff_not] at h5
              simp [okAt, h, hc, h9, hp]
              omega
            · have hj2 : IntKind.i64.wrap ((j : Int) + 1 + 1) = ((j + 2 : Nat) : Int) := wrap_in _ (by omega) (by omega)
              simp [h0, h3, hj2]
              refine ⟨⟨j + 2, by omega, by omega, ?_⟩, ?_⟩
              · rw [wrTo_succ, hw]
                simp [ahead] at h1 h2 h4 h5
                simp [okAt, h, hc, h1, h9, hp]
                omega
              · simp [AV.num]
                omega
          · simp [wrap_suc i (by omega)]
            refine ⟨⟨i + 1, by omega, by simp, ?_⟩, ?_⟩
            · rw [wrTo_succ, hw]
              simp at h1 h2 h4 h5
              subst h5
              simp [okAt, h, hc, h1]
              omega
            · simp [AV.num]
              omega
  · simp at h
    have : i = l.length := by omega
    subst this
    simpa [wrB] using hw
theorem elem22 : elemOf? (tabOf Try.prog) 22 = some (36, ⟨.struct #[⟨"Id", 3, 0, false, "", "", 0⟩, ⟨"Field", 3, 1, false, "", "", 8⟩, ⟨"V", 34, 2, false, "", "", 16⟩], 6, 56, [.int .i64 0, .int .i64 0, .int .i64 0, .bool false, .string ⟨#[]⟩, .int .i64 0], true⟩) := by kernel_rfl
theorem append_cell {s : St} {k : Option Nat} {tk : Tok} {xs ys : List AV} (hk : okO s k = true) (h1 : tk.ok s = true) (h5 : xs.length + ys.length ≤ 1000000000) {e' : Nat} :
    appendAV (tabOf Try.prog) s 22 (.sl 36 6 (tokO k) xs) (.sl e' 6 tk ys) = some (.sl 36 6 (.own s.tok.length) (xs ++ ys), s.new k) :=
  append_out elem22 hk h1 rfl (by show 0 < 6; omega) (by show _ * 56 ≤ _; omega) (by omega)
theorem over_pure (a b : List Cell) (ha : a.length < 1000000) (hb : b.length < 1000000) : Pure Try.prog 26 [slC .ro a, slC .ro b] 0 (slC .fz (over a b)) := by
  refine Pure.of_run hmix Try.func26 (by kernel_rfl) rfl ⟨Try.ntmps26, by simp⟩ ?_
  simp
  refine run_loopw (fun F s => ∃ (i k : Nat) (o : List Cell) (K : Option Nat), i ≤ a.length ∧ k ≤ b.length ∧ F 0 = slC .ro a ∧ F 1 = slC .ro b ∧ F 5 = slC (tokO K) o ∧ okO s K = true ∧ F 6 = .int .i64 i ∧ F 7 = .int .i64 k ∧ o.length ≤ i + k ∧ o ++ over (a.drop i) (b.drop k) = over a b) (fun F _ => a.length + b.length - (F 6).num - (F 7).num)
    _ _ (Weak.nil (i := 5) 36 6 (by simp)) ⟨0, 0, [], none, by simp, by simp, by simp, by simp, by simp [tokO], rfl, by simp, by simp, by simp, by simp⟩ ?_
  rintro F s ⟨i, k, o, K, hi, hk, h0, h1, h5, hK, h6, h7, hl, hw⟩
  have hap : ∀ c : Cell, appendAV (tabOf Try.prog) (s.new none) 22 (slC (tokO K) o) (.sl 36 6 (.own s.tok.length) [encCell c]) = some (slC (.own (s.new none).tok.length) (o ++ [c]), (s.new none).new K) := fun c => by
    rw [append_cell (okO_new hK) (tk := .own s.tok.length) (live_last' s none) (by simp; omega)]
    simp
  simp only [encCell] at hap
  by_cases hi' : i < a.length
  · obtain ⟨c, hc⟩ : ∃ c, a[i] = c := ⟨_, rfl⟩
    have hda : a.drop i = c :: a.drop (i + 1) := by rw [List.drop_eq_getElem_cons hi', hc]
    by_cases hk' : k < b.length
    · obtain ⟨d, hd⟩ : ∃ d, b[k] = d := ⟨_, rfl⟩
      have hdb : b.drop k = d :: b.drop (k + 1) := by rw [List.drop_eq_getElem_cons hk', hd]
      have hne : ((k : Int) == (b.length : Int)) = false := by simp; omega
      simp [h0, h1, h6, h7, hi', hk']
      refine RDraw_mk [] [(0, .p), (1, .p), (2, .p), (3, .p), (4, .p), (5, .p), (6, .p), (7, .p), (8, .p), (9, .p), (10, .p), (11, .p), (12, .p), (14, .p), (15, .p), (16, .p), (13, .l), (17, .l), (18, .c), (19, .p), (20, .p), (21, .p)] (by kernel_rfl) ?_
      simp [h0, h1, h6, h7, hi', hk', hne, hc, hd, encCell]
      refine (ahead_pure c d).run rfl (by simp [encCell]) (by simp [encCell]) (by simp) ?_
      simp
      refine condR_mk (fun h2 => ?_) (fun h2 => ?_)
      · simp [h0, h1, h5, h6, h7, hi', hc, encCell, hap, wrap_suc i (by omega)]
        refine ⟨⟨i + 1, by omega, k, by omega, o ++ [c], some _, ⟨rfl, by simp [encCell]⟩, live_last' _ _, rfl, rfl, by simp; omega, ?_⟩, ?_⟩
        · rw [← hw, hda, hdb, over, if_pos h2]
          simp
        · simp [AV.num]
          omega
      · simp
        refine RDraw_mk [] [(0, .p), (1, .p), (2, .p), (3, .p), (4, .p), (5, .p), (6, .p), (7, .p), (9, .p), (10, .p), (11, .p), (8, .l), (12, .l), (13, .c), (14, .p), (15, .p)] (by kernel_rfl) ?_
        simp [h0, h1, h6, h7, hi', hk', hc, hd, encCell]
        refine (register_pure c d).run rfl (by simp [encCell]) (by simp [encCell]) (by simp) ?_
        simp
        refine condR_mk (fun h3 => ?_) (fun h3 => ?_)
        · simp [h0, h1, h5, h6, h7, wrap_suc i (by omega)]
          refine ⟨⟨i + 1, by omega, k, by omega, o, K, ⟨rfl, rfl⟩, hK, rfl, rfl, by omega, ?_⟩, ?_⟩
          · rw [← hw, hda, hdb]
            simp [over, h2, h3]
          · simp [AV.num]
            omega
        · simp [h0, h1, h5, h6, h7, hk', hd, encCell, hap, wrap_suc k (by omega)]
          refine ⟨⟨i, by omega, k + 1, by omega, o ++ [d], some _, ⟨rfl, by simp [encCell]⟩, live_last' _ _, rfl, rfl, by simp; omega, ?_⟩, ?_⟩
          · rw [← hw, hda, hdb, over, if_neg (by simp [h2]), if_neg (by simp [h3])]
            simp
          · simp [AV.num]
            omega
    · have hkb : k = b.length := by omega
      have hdb : b.drop k = [] := by simp [hkb]
      simp [h0, h1, h6, h7, hi', hk']
      refine RDraw_mk [] [(0, .p), (1, .p), (2, .p), (3, .p), (4, .p), (5, .p), (6, .p), (7, .p), (8, .p), (9, .p), (10, .p), (11, .p), (12, .p), (14, .p), (15, .p), (16, .p), (13, .l), (17, .l), (18, .c), (19, .p), (20, .p), (21, .p)] (by kernel_rfl) ?_
      simp [h0, h1, h6, h7, hi', hkb, hc, encCell]
      simp [h0, h1, h5, h6, h7, hi', hc, encCell, hap, wrap_suc i (by omega)]
      refine ⟨⟨i + 1, by omega, k, by omega, o ++ [c], some _, ⟨rfl, by simp [encCell]⟩, live_last' _ _, rfl, rfl, by simp; omega, ?_⟩, ?_⟩
      · rw [← hw, hda, hdb, over_nil, over_nil]
        simp
      · simp [AV.num]
        omega
  · have hia : i = a.length := by omega
    have hda : a.drop i = [] := by simp [hia]
    by_cases hk' : k < b.length
    · obtain ⟨d, hd⟩ : ∃ d, b[k] = d := ⟨_, rfl⟩
      have hdb : b.drop k = d :: b.drop (k + 1) := by rw [List.drop_eq_getElem_cons hk', hd]
      have hne : ((k : Int) == (b.length : Int)) = false := by simp; omega
      simp [h0, h1, h6, h7, hi', hk']
      refine RDraw_mk [] [(0, .p), (1, .p), (2, .p), (3, .p), (4, .p), (5, .p), (6, .p), (7, .p), (8, .p), (9, .p), (10, .p), (11, .p), (12, .p), (14, .p), (15, .p), (16, .p), (13, .l), (17, .l), (18, .c), (19, .p), (20, .p), (21, .p)] (by kernel_rfl) ?_
      simp [h0, h1, h6, h7, hi', hk', hne, hd, encCell]
      refine RDraw_mk [] [(0, .p), (1, .p), (2, .p), (3, .p), (4, .p), (5, .p), (6, .p), (7, .p), (9, .p), (10, .p), (11, .p), (8, .l), (12, .l), (13, .c), (14, .p), (15, .p)] (by kernel_rfl) ?_
      simp [h0, h1, h6, h7, hi', hk', hd, encCell]
      simp [h0, h1, h5, h6, h7, hk', hd, encCell, hap, wrap_suc k (by omega)]
      refine ⟨⟨i, by omega, k + 1, by omega, o ++ [d], some _, ⟨rfl, by simp [encCell]⟩, live_last' _ _, rfl, rfl, by simp; omega, ?_⟩, ?_⟩
      · rw [← hw, hda, hdb, nil_over, nil_over]
        simp
      · simp [AV.num]
        omega
    · simp [h0, h1, h6, h7, hi', hk', h5]
      have hdb : b.drop k = [] := by simp; omega
      rw [hda, hdb, over_nil, List.append_nil] at hw
      rw [← hw]
      exact conv_fz plainCell hK 36 6 o
theorem rest24_pure (a b : List Cell) (ha : a.length < 1000000) (hb : b.length < 1000000) : Pure Try.prog 14 [slC .ro a, slC .ro b] 0 (slC .fz (rest24 a b)) := by
  refine Pure.of_run hmix Try.func14 (by kernel_rfl) rfl ⟨Try.ntmps14, by simp⟩ ?_
  simp
  refine (writes12_pure a ha).run rfl (by simp) (by simp) (by simp) ?_
  simp
  refine gR_mk (fun h => ?_) (fun h => ?_) <;> simp only [Bool.not_eq_true', Bool.not_eq_false'] at h <;> simp [h]
  · rw [show rest24 a b = [] by simp [rest24, h]]
    exact conv_nil ..
  · refine (writes12_pure b hb).run rfl (by simp) (by simp) (by simp) ?_
    simp
    refine condR_mk (fun h2 => ?_) (fun h2 => ?_) <;> simp only [Bool.not_eq_true', Bool.not_eq_false'] at h2 <;> simp [h2]
    · rw [show rest24 a b = [] by simp [rest24, h2]]
      exact conv_nil ..
    · rw [show rest24 a b = a.filter fun c => !wr24 b c by simp [rest24, h, h2]]
      refine run_loopw (fun F s => ∃ (i : Nat) (o : List Cell) (K : Option Nat), i ≤ a.length ∧ F 0 = slC .ro a ∧ F 1 = slC .ro b ∧ F 5 = slC (tokO K) o ∧ okO s K = true ∧ F 6 = .int .i64 i ∧ o.length ≤ i ∧ o ++ (a.drop i).filter (fun c => !wr24 b c) = a.filter fun c => !wr24 b c) (fun F _ => a.length - (F 6).num)
        _ _ (Weak.nil (i := 5) 36 6 (by simp)) ⟨0, [], none, by simp, by simp, by simp, by simp [tokO], rfl, by simp, by simp, by simp⟩ ?_
      rintro F s ⟨i, o, K, hi, h0, h1, h5, hK, h6, hl, hw⟩
      have hap : ∀ c : Cell, appendAV (tabOf Try.prog) (s.new none) 22 (slC (tokO K) o) (.sl 36 6 (.own s.tok.length) [encCell c]) = some (slC (.own (s.new none).tok.length) (o ++ [c]), (s.new none).new K) := fun c => by
        rw [append_cell (okO_new hK) (tk := .own s.tok.length) (live_last' s none) (by simp; omega)]
        simp
      simp only [encCell] at hap
      by_cases hi' : i < a.length
      · obtain ⟨c, hc⟩ : ∃ c, a[i] = c := ⟨_, rfl⟩
        have hda : a.drop i = c :: a.drop (i + 1) := by rw [List.drop_eq_getElem_cons hi', hc]
        simp [h0, h1, h6, hi', hc, encCell]
        refine (wr24_pure b c hb).run rfl (by simp) (by simp [encCell]) (by simp) ?_
        simp
        refine condR_mk (fun h3 => ?_) (fun h3 => ?_) <;> simp only [Bool.not_eq_true', Bool.not_eq_false'] at h3
        · simp [h0, h1, h5, h6, hi', hc, encCell, hap, wrap_suc i (by omega)]
          refine ⟨⟨i + 1, by omega, o ++ [c], some _, ⟨rfl, by simp [encCell]⟩, live_last' _ _, rfl, by simp; omega, ?_⟩, ?_⟩
          · rw [← hw, hda]
            simp [h3]
          · simp [AV.num]
            omega
        · simp [h0, h1, h5, h6, hi', hc, encCell, hap, wrap_suc i (by omega)]
          refine ⟨⟨i + 1, by omega, o, K, ⟨rfl, rfl⟩, hK, rfl, by omega, ?_⟩, ?_⟩
          · rw [← hw, hda]
            simp [h3]
          · simp [AV.num]
            omega
      · have hia : i = a.length := by omega
        simp [h0, h1, h6, h5, hia]
        simp [hia] at hw
        rw [← hw]
        exact conv_fz plainCell hK 36 6 o
theorem comp24_pure (a b : List Cell) (ha : a.length < 1000000) (hb : b.length < 1000000) : Pure Try.prog 12 [slC .ro a, slC .ro b] 0 (slC .fz (comp24 a b)) := by
  refine Pure.of_run hmix Try.func12 (by kernel_rfl) rfl ⟨Try.ntmps12, by simp⟩ ?_
  simp
  refine (writes12_pure a ha).run rfl (by simp) (by simp) (by simp) ?_
  simp
  refine gR_mk (fun h => ?_) (fun h => ?_) <;> simp only [Bool.not_eq_true', Bool.not_eq_false'] at h <;> simp [h]
  · rw [show comp24 a b = [] by simp [comp24, h]]
    exact conv_nil ..
  · refine (writes12_pure b hb).run rfl (by simp) (by simp) (by simp) ?_
    simp
    refine condR_mk (fun h2 => ?_) (fun h2 => ?_) <;> simp only [Bool.not_eq_true', Bool.not_eq_false'] at h2 <;> simp [h2]
    · rw [show comp24 a b = [] by simp [comp24, h2]]
      exact conv_nil ..
    · refine (over_pure a b ha hb).run (by simp) (by simp) (by simp) (by simp) ?_
      simp
      rw [show comp24 a b = over a b by simp [comp24, h, h2]]
      exact conv_fzl plainCell ..
theorem indep24_pure (a b : List Cell) (ha : a.length < 1000000) (hb : b.length < 1000000) : Pure Try.prog 9 [slC .ro a, slC .ro b] 0 (.bool (indep24 a b)) := by
  refine Pure.of_run hmix Try.func9 (by kernel_rfl) rfl ⟨Try.ntmps9, by simp⟩ ?_
  simp
  refine (writes12_pure a ha).run rfl (by simp) (by simp) (by simp) ?_
  simp
  refine gR_mk (fun h => ?_) (fun h => ?_) <;> simp [h]
  · refine (writes12_pure b hb).run rfl (by simp) (by simp) (by simp) ?_
    simp
    refine gR_mk (fun h2 => ?_) (fun h2 => ?_) <;> simp [h2]
    · refine (rest24_pure a b ha hb).run (by simp) (by simp) (by simp) (by simp) ?_
      simp [indep24, h, h2, cast_beq]
    · simp [indep24, h2]
  · simp [indep24, h]
theorem append_put {s : St} {K : Option Nat} {o : List Cell} (hK : okO s K = true) (ho : o.length ≤ 5000000) (c : Cell) :
    appendAV (tabOf Try.prog) (s.new none) 22 (slC (tokO K) o) (.sl 36 6 (.own s.tok.length) [encCell c]) = some (slC (.own (s.new none).tok.length) (o ++ [c]), (s.new none).new K) := by
  rw [append_cell (okO_new hK) (tk := .own s.tok.length) (live_last' s none) (by simp; omega)]
  simp
theorem put_pure (l w : List Cell) (ha : l.length < 1000000) (hb : w.length < 1000000) : Pure Try.prog 17 [slC .ro l, slC .ro w] 0 (slC .fz (put l w)) := by
  refine Pure.of_run hmix Try.func17 (by kernel_rfl) rfl ⟨Try.ntmps17, by simp⟩ ?_
  simp
  refine (valid_pure l ha).run rfl (by simp) (by simp) (by simp) ?_
  simp
  refine gR_mk (fun h => ?_) (fun h => ?_) <;> simp only [Bool.not_eq_true', Bool.not_eq_false'] at h <;> simp [h]
  · rw [show put l w = [] by simp [put, h]]
    exact conv_nil ..
  · refine (writes_pure w hb).run rfl (by simp) (by simp) (by simp) ?_
    simp
    refine condR_mk (fun h2 => ?_) (fun h2 => ?_) <;> simp only [Bool.not_eq_true', Bool.not_eq_false'] at h2 <;> simp [h2]
    · rw [show put l w = [] by simp [put, h2]]
      exact conv_nil ..
    · rw [show put l w = putR l w by simp [put, h, h2]]
      refine run_loopw (fun F s => ∃ (i j : Nat) (o : List Cell) (K : Option Nat), i ≤ l.length ∧ j ≤ w.length ∧ F 0 = slC .ro l ∧ F 17 = slC .ro w ∧ F 18 = .int .i64 w.length ∧ F 19 = .int .i64 j ∧ F 5 = slC (tokO K) o ∧ okO s K = true ∧ F 6 = .int .i64 i ∧ o.length ≤ i + j ∧ o ++ putR (l.drop i) (w.drop j) = putR l w) (fun F _ => w.length - (F 19).num)
        _ _ (Weak.nil (i := 5) 36 6 (by simp)) ⟨0, 0, [], none, by simp, by simp, by simp, by simp, by simp, by simp, by simp [tokO], rfl, by simp, by simp, by simp⟩ ?_
      rintro F s ⟨i, j, o, K, hi, hj, h0, h17, h18, h19, h5, hK, h6, hl, hw⟩
      by_cases hj' : j < w.length
      · obtain ⟨c, hc⟩ : ∃ c, w[j] = c := ⟨_, rfl⟩
        have hdw : w.drop j = c :: w.drop (j + 1) := by rw [List.drop_eq_getElem_cons hj', hc]
        simp [h17, h18, h19, hj', hc, encCell]
        refine run_loop (fun F s' => ∃ (i : Nat) (o : List Cell) (K : Option Nat), i ≤ l.length ∧ F 0 = slC .ro l ∧ F 17 = slC .ro w ∧ F 18 = .int .i64 w.length ∧ F 19 = .int .i64 j ∧ F 8 = .ptr s.box.length 0 ∧ s'.box[s.box.length]? = some (36, [.int .i64 c.id, .int .i64 c.field, .int .i64 c.n, .bool c.flag, .str c.text, .int .i64 c.ref]) ∧ F 5 = slC (tokO K) o ∧ okO s' K = true ∧ F 6 = .int .i64 i ∧ o.length ≤ i + j ∧ o ++ putR (l.drop i) (c :: w.drop (j + 1)) = putR l w) (fun F _ => l.length - (F 6).num)
          ⟨i, o, K, by omega, by simp [h0], by simp [h17], by simp [h18], by simp [h19], by simp, by simp, by simp [h5], hK, by simp [h6], by omega, hdw ▸ hw⟩ ?_
        clear h0 h17 h18 h19 h5 hK h6 hl hw hi
        rintro F s' ⟨i, o, K, hi, h0, h17, h18, h19, h8, hbx, h5, hK, h6, hl, hw⟩
        have hap := append_put hK (show o.length ≤ 5000000 by omega)
        simp only [encCell] at hap
        simp
        refine RDraw_mk [] [(0, .p), (1, .p), (2, .p), (3, .p), (4, .p), (5, .p), (6, .p), (7, .p), (8, .l), (9, .l), (10, .c), (11, .p), (12, .p)] (by kernel_rfl) ?_
        by_cases hi' : i < l.length
        · obtain ⟨a, hA⟩ : ∃ a, l[i] = a := ⟨_, rfl⟩
          have hda : l.drop i = a :: l.drop (i + 1) := by rw [List.drop_eq_getElem_cons hi', hA]
          simp [h0, h6, h8, hi', hA, hbx, encCell]
          refine (order_pure a c).run rfl (by simp [encCell]) (by simp [encCell]) (by simp) ?_
          simp
          refine condR_mk (fun h3 => ?_) (fun h3 => ?_)
          · simp [h0, h5, h6, h17, h18, h19, h8, hi', hA, hbx, encCell, hap, wrap_suc i (by omega)]
            refine ⟨⟨i + 1, by omega, o ++ [a], some _, ⟨rfl, by simp [encCell]⟩, live_last' _ _, by simp, by simp; omega, ?_⟩, ?_⟩
            · rw [← hw, hda]
              simp [putR, ahead, h3]
            · simp [AV.num]
              omega
          · simp
            refine RDraw_mk [] [(0, .p), (1, .p), (2, .p), (3, .p), (4, .p), (5, .p), (6, .p), (7, .p), (8, .l), (9, .l), (10, .c), (11, .p), (12, .p)] (by kernel_rfl) ?_
            simp [h0, h6, h8, hi', hA, hbx, encCell]
            refine (order_pure a c).run rfl (by simp [encCell]) (by simp [encCell]) (by simp) ?_
            simp
            have h4' := ordr_zero a c
            refine condR_mk (fun h4 => ?_) (fun h4 => ?_)
            · rw [beq_iff_eq] at h4
              simp only [h4, decide_true] at h4'
              simp [h0, h5, h6, h8, h17, h18, h19, hbx, wrap_suc i (by omega)]
              refine condR_mk (fun h9 => ?_) (fun h9 => ?_) <;> simp only [Bool.not_eq_true', Bool.not_eq_false'] at h9
              · simp [h0, h5, h6, h8, h17, h18, h19, hbx, hap, wrap_suc j (by omega)]
                refine ⟨⟨i + 1, by omega, j + 1, by omega, by simp, o ++ [c], some _, ⟨rfl, by simp [encCell]⟩, live_last' _ _, by simp, by simp; omega, ?_⟩, ?_⟩
                · rw [← hw, hda]
                  simp [putR, one, h9, ahead, h4, ← h4']
                · simp [AV.num]
                  omega
              · simp [h0, h5, h6, h8, h17, h18, h19, hbx, wrap_suc j (by omega)]
                refine ⟨⟨i + 1, by omega, j + 1, by omega, by simp, o, K, ⟨rfl, rfl⟩, hK, by simp, by omega, ?_⟩, ?_⟩
                · rw [← hw, hda]
                  simp [putR, one, h9, ahead, h4, ← h4']
                · simp [AV.num]
                  omega
            · rw [beq_eq_false_iff_ne] at h4
              simp only [h4, decide_false] at h4'
              simp [h0, h5, h6, h8, h17, h18, h19, hbx, wrap_suc i (by omega)]
              refine condR_mk (fun h9 => ?_) (fun h9 => ?_) <;> simp only [Bool.not_eq_true', Bool.not_eq_false'] at h9
              · simp [h0, h5, h6, h8, h17, h18, h19, hbx, hap, wrap_suc j (by omega)]
                refine ⟨⟨i, by omega, j + 1, by omega, by simp, o ++ [c], some _, ⟨rfl, by simp [encCell]⟩, live_last' _ _, by simp, by simp; omega, ?_⟩, ?_⟩
                · rw [← hw, hda]
                  simp [putR, one, h9, ahead, h3, ← h4']
                · simp [AV.num]
                  omega
              · simp [h0, h5, h6, h8, h17, h18, h19, hbx, wrap_suc j (by omega)]
                refine ⟨⟨i, by omega, j + 1, by omega, by simp, o, K, ⟨rfl, rfl⟩, hK, by simp, by omega, ?_⟩, ?_⟩
                · rw [← hw, hda]
                  simp [putR, one, h9, ahead, h3, ← h4']
                · simp [AV.num]
                  omega
        · simp [h0, h6, h8, hi', hbx]
          have hil : i = l.length := by omega
          have hda : l.drop i = [] := by simp [hil]
          refine RDraw_mk [] [(0, .p), (1, .p), (2, .p), (3, .p), (4, .p), (5, .p), (6, .p), (7, .p), (8, .l), (9, .l), (10, .c), (11, .p), (12, .p)] (by kernel_rfl) ?_
          simp [h0, h5, h6, h8, h17, h18, h19, hbx, hi', wrap_suc i (by omega)]
          refine condR_mk (fun h9 => ?_) (fun h9 => ?_) <;> simp only [Bool.not_eq_true', Bool.not_eq_false'] at h9
          · simp [h0, h5, h6, h8, h17, h18, h19, hbx, hap, wrap_suc j (by omega)]
            refine ⟨⟨i, by omega, j + 1, by omega, by simp, o ++ [c], some _, ⟨rfl, by simp [encCell]⟩, live_last' _ _, by simp, by simp; omega, ?_⟩, ?_⟩
            · rw [← hw, hda]
              simp [putR, one, h9]
            · simp [AV.num]
              omega
          · simp [h0, h5, h6, h8, h17, h18, h19, hbx, wrap_suc j (by omega)]
            refine ⟨⟨i, by omega, j + 1, by omega, by simp, o, K, ⟨rfl, rfl⟩, hK, by simp, by omega, ?_⟩, ?_⟩
            · rw [← hw, hda]
              simp [putR, one, h9]
            · simp [AV.num]
              omega
      · have hjw : j = w.length := by omega
        have e : List.drop i (List.take l.length (l.map encCell)) = (l.drop i).map encCell := by rw [List.take_of_length_le (by simp), List.map_drop]
        have hap : appendAV (tabOf Try.prog) s 22 (slC (tokO K) o) (.sl 36 6 .ro ((l.map encCell).drop i)) = some (slC (.own s.tok.length) (o ++ l.drop i), s.new K) := by
          rw [← List.map_drop, append_cell hK (tk := .ro) rfl (by simp; omega)]
          simp
        simp [h17, h18, h19, h0, h5, h6, hjw, hi, e, hap]
        have hdw : w.drop j = [] := by simp [hjw]
        rw [hdw, show putR (l.drop i) [] = l.drop i by unfold putR; rfl] at hw
        rw [← hw]
        exact conv_fz plainCell (k := some _) (live_last' _ _) 36 6 _
end Go.Proofs.YtfodigfliiemeaaA
