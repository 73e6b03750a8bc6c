/- Contracts of ident and cells. -/
import Derived.Test.YtfodigfliiemeaaA12
import Derived.Test.YtfodigfliiemeaaB0
import Derived.Test.YtfodigfliiemeaaProg
import Derived.KernelRfl
namespace Go.Proofs.YtfodigfliiemeaaA
open Go.RowKit Go.Proofs
theorem T3 : tabOf Try.prog 3 = some ⟨.int .i64, 1, 8, [.int .i64 0], true⟩ := by kernel_rfl
theorem T46 : tabOf Try.prog 46 = some ⟨.int .u64, 1, 8, [.int .u64 0], true⟩ := by kernel_rfl
theorem T4 : tabOf Try.prog 4 = some ⟨.bool, 1, 1, [.bool false], true⟩ := by kernel_rfl
theorem T9 : tabOf Try.prog 9 = some ⟨.string, 1, 16, [.string ⟨#[]⟩], true⟩ := by kernel_rfl
theorem T22 : tabOf Try.prog 22 = some ⟨.slice 36, 1, 24, [.slice none 0 0], true⟩ := by kernel_rfl
theorem T34 : tabOf Try.prog 34 = some ⟨.struct #[⟨"N", 3, 0, false, "", "", 0⟩, ⟨"Flag", 4, 1, false, "", "", 8⟩, ⟨"Text", 9, 2, false, "", "", 16⟩, ⟨"Ref", 3, 3, false, "", "", 32⟩], 4, 40, [.int .i64 0, .bool false, .string ⟨#[]⟩, .int .i64 0], true⟩ := by kernel_rfl
theorem T36 : tabOf Try.prog 36 = some ⟨.struct #[⟨"Id", 3, 0, false, "", "", 0⟩, ⟨"Field", 3, 1, false, "", "", 8⟩, ⟨"V", 34, 2, false, "", "", 16⟩], 6, 56, [.int .i64 0, .int .i64 0, .int .i64 0, .bool false, .string ⟨#[]⟩, .int .i64 0], true⟩ := by kernel_rfl
theorem hmix : Try.prog.follows .mixedOrders = true := by kernel_rfl
def encCell (c : Cell) : AV := .agg [.int .i64 c.id, .int .i64 c.field, .int .i64 c.n, .bool c.flag, .str c.text, .int .i64 c.ref]
theorem plainCell : Plain encCell := fun a => ⟨fun f => by simp [encCell, AV.ret, AV.retL], fun p => by simp [encCell, AV.allT, AV.allTL]⟩
abbrev slC (t : Tok) (l : List Cell) : AV := .sl 36 6 t (l.map encCell)
attribute [local simp ↓] run_nil run_seq run_skip run_region run_draw run_cond run_block run_exit run_ret run_b run_l rexit_c rexit_l rexit_b rops_nil rplan_nil rops_cons rops_guard rplan_cons condR_true condR_false
attribute [local simp] planR_some planR_guard rrest_o rrest_p gS_some gR_tt gR_ff gR_ft gR_tf gR_tup valP_some valP_none valE_some valE_none valS_some opR_move opR_assign opR_pick opR_binOp opR_unOp opR_convert opR_extract opR_field opR_fieldAddr opR_indexAddr opR_index opR_slice opR_makeFunc opR_build opR_load opR_loadl opR_p opR_store opR_alloc opR_box opR_buildSlice opR_makeSlice opR_allocc opR_boxc opR_buildSlicec opR_makeSlicec opR_len opR_append opR_call opR_callc
attribute [local simp] evP boxAV allocAV okCells_agg okCells_sl okCells_int okCells_bool okCells_str okCells_nilp okCells_nilfn okCells_ptr okCells_fn loadAV storeAV partAV partAV0 fieldAV fieldAddrAV indexAddrAV indexAV lenAV sliceAV boundAV fieldAt? elemOf? kindOf look cst updO upd dstOk binAV_int binAV_str binAV_bool binAV_fn binAV_nilfn binAV_agg binInt binStr isShift shiftInt unAV convAV TD.agg RetQ resAV resAVs resAV1 F0 conv_int conv_bool conv_str AV.allT AV.ret AV.allTL AV.retL St.empty fnOf_fn gslot buildAV fillAV placesAV buildSliceAV makeSliceAV fillE zeroElem? Tok.cut Tok.frz Tok.ok Tok.okR Tok.ren Tok.noRo Tok.shift addToks_zero live_last' new_box Tok.fixed le_refl leL_refl le_agg le_tup le_int le_bool le_str le_nil leL_nil leL_cons
attribute [local simp] T3 T4 T9 T22 T34 T36 T46

theorem eqV (k : Nat) (n n' r r' : Int) (f f' : Bool) (t t' : ByteArray) : eqTy (tabOf Try.prog) (k + 2) 34 (.agg [.int .i64 n, .bool f, .str t, .int .i64 r]) (.agg [.int .i64 n', .bool f', .str t', .int .i64 r']) = some (n == n' && (f == f' && (t == t' && r == r'))) := by
  simp [eqTy, eqFields, eqLeaf]
theorem eqC (k : Nat) (i i' g g' n n' r r' : Int) (f f' : Bool) (t t' : ByteArray) : eqTy (tabOf Try.prog) (k + 3) 36 (.agg [.int .i64 i, .int .i64 g, .int .i64 n, .bool f, .str t, .int .i64 r]) (.agg [.int .i64 i', .int .i64 g', .int .i64 n', .bool f', .str t', .int .i64 r']) = some (i == i' && (g == g' && (n == n' && (f == f' && (t == t' && r == r'))))) := by
  have h := eqV k n n' r r' f f' t t'
  simp [eqTy, eqFields, eqLeaf]
theorem eqV10 (n n' r r' : Int) (f f' : Bool) (t t' : ByteArray) : eqTy (tabOf Try.prog) 10 34 (.agg [.int .i64 n, .bool f, .str t, .int .i64 r]) (.agg [.int .i64 n', .bool f', .str t', .int .i64 r']) = some (n == n' && (f == f' && (t == t' && r == r'))) := eqV 8 ..
theorem eqC10 (i i' g g' n n' r r' : Int) (f f' : Bool) (t t' : ByteArray) : eqTy (tabOf Try.prog) 10 36 (.agg [.int .i64 i, .int .i64 g, .int .i64 n, .bool f, .str t, .int .i64 r]) (.agg [.int .i64 i', .int .i64 g', .int .i64 n', .bool f', .str t', .int .i64 r']) = some (i == i' && (g == g' && (n == n' && (f == f' && (t == t' && r == r'))))) := eqC 7 ..
theorem zeroV_eq (c : Cell) : (c.n == 0 && (!c.flag && (c.text == ⟨#[]⟩ && c.ref == 0))) = zeroV c := by
  cases c
  rw [Bool.eq_iff_iff]
  simp [zeroV, and_assoc, ba_beq]
theorem sameV_eq (c d : Cell) : (c.n == d.n && (c.flag == d.flag && (c.text == d.text && c.ref == d.ref))) = sameV c d := by
  rw [Bool.eq_iff_iff]
  simp [sameV, ba_beq]
theorem cell_eq (c d : Cell) : (c.id == d.id && (c.field == d.field && (c.n == d.n && (c.flag == d.flag && (c.text == d.text && c.ref == d.ref))))) = decide (c = d) := by
  cases c; cases d
  rw [Bool.eq_iff_iff]
  simp [ba_beq]
theorem allTL_cells (p : Tok → Bool) (l : List Cell) : AV.allTL p (l.map encCell) = true := plainCell.allTL p l
theorem retL_cells (f : Tok → Tok) (l : List Cell) : AV.retL f (l.map encCell) = l.map encCell := plainCell.retL f l
theorem order_pure (a b : Cell) : Pure Try.prog 30 [encCell a, encCell b] 0 (.int .i64 (ordr a.id a.field b.id b.field)) := by
  refine Pure.of_run hmix Try.func30 (by kernel_rfl) rfl ⟨Try.ntmps30, by simp⟩ ?_
  simp [encCell]
  refine condR_mk (fun h => ?_) (fun h => ?_) <;> simp at h <;> simp
  · refine condR_mk (fun h1 => ?_) (fun h1 => ?_) <;> simp at h1 <;> simp [ordr, h, h1]
  · refine condR_mk (fun h1 => ?_) (fun h1 => ?_) <;> simp at h1 <;> simp
    · simp [ordr, h, h1]
    · refine condR_mk (fun h2 => ?_) (fun h2 => ?_) <;> simp at h2 <;> simp [ordr, h, h2] <;> (repeat' split) <;> omega
theorem and_mask (x : Int) (h : 0 ≤ x) (h' : x < 18446744073709551616) : IntKind.i64.wrap ↑((x % 2 ^ IntKind.i64.bits).toNat &&& 1048575 % 2 ^ IntKind.i64.bits) = x % 1048576 := by
  have e : (x % 2 ^ IntKind.i64.bits) = x := Int.emod_eq_of_lt h (by simpa [IntKind.bits] using h')
  have e2 : (1048575 % 2 ^ IntKind.i64.bits : Nat) = 2 ^ 20 - 1 := by decide
  rw [e, e2, Nat.and_two_pow_sub_one_eq_mod]
  have : ((x.toNat % 2 ^ 20 : Nat) : Int) = x % 1048576 := by omega
  rw [this, wrap_in] 
  all_goals omega
theorem begun_pure (x : Int) : Pure Try.prog 39 [.int .i64 x] 0 (.bool (decide (1 ≤ x.fdiv 1048576) && decide (x.fdiv 1048576 ≤ 32))) := by
  refine Pure.of_run hmix Try.func39 (by kernel_rfl) rfl ⟨Try.ntmps39, by simp⟩ ?_
  simp [IntKind.bits]
  refine gR_mk (fun h => ?_) (fun h => ?_) <;> simp only [decide_eq_true_eq, decide_eq_false_iff_not] at h <;> simp [h, IntKind.bits]
theorem validId_pure (x : Int) : Pure Try.prog 29 [.int .i64 x] 0 (.bool (validId x)) := by
  refine Pure.of_run hmix Try.func29 (by kernel_rfl) rfl ⟨Try.ntmps29, by simp⟩ ?_
  simp
  refine (begun_pure x).run rfl (by simp) (by simp) (by simp) ?_
  simp [-Bool.and_eq_true]
  refine gR_mk (fun h => ?_) (fun h => ?_) 
  · simp [h]
    simp only [Bool.and_eq_true, decide_eq_true_eq] at h
    rw [Int.fdiv_eq_ediv_of_nonneg _ (by omega)] at h
    rw [and_mask x (by omega) (by omega), Bool.eq_iff_iff]
    simp [validId]
    omega
  · simp [h]
    rw [Int.fdiv_eq_ediv_of_nonneg _ (by omega)] at h
    simp at h
    simp [validId]
    omega
theorem valid10_pure (x : Int) : Pure Try.prog 36 [.int .i64 x] 0 (.bool (validId x)) := by
  refine Pure.of_run hmix Try.func36 (by kernel_rfl) rfl ⟨Try.ntmps36, by simp⟩ ?_
  simp
  refine gR_mk (fun h => ?_) (fun h => ?_) <;> simp [h]
  · refine gR_mk (fun h1 => ?_) (fun h1 => ?_) <;> simp [h1]
    · simp at h h1
      rw [Int.tmod_eq_emod_of_nonneg (by omega), Bool.eq_iff_iff]
      simp [validId]
      omega
    · simp at h h1
      simp [validId]
      omega
  · simp at h
    simp [validId]
    omega
theorem ahead_pure (a b : Cell) : Pure Try.prog 37 [encCell a, encCell b] 0 (.bool (ahead a b)) := by
  refine Pure.of_run hmix Try.func37 (by kernel_rfl) rfl ⟨Try.ntmps37, by simp⟩ ?_
  simp [encCell]
  refine condR_mk (fun h => ?_) (fun h => ?_) <;> simp [h] <;> simp at h <;> simp [ahead, ordr, h] <;> (repeat' split) <;> omega
theorem register_pure (a b : Cell) : Pure Try.prog 38 [encCell a, encCell b] 0 (.bool (sameReg a b)) := by
  refine Pure.of_run hmix Try.func38 (by kernel_rfl) rfl ⟨Try.ntmps38, by simp⟩ ?_
  simp [encCell]
  refine gR_mk (fun h => ?_) (fun h => ?_) <;> simp [h] <;> simp at h <;> simp [sameReg, h] <;> rfl
theorem corder_pure (a b : Cell) : Pure Try.prog 35 [encCell a, encCell b] 0 (.int .i64 (if a.id = b.id then IntKind.i64.wrap (a.field - b.field) else IntKind.i64.wrap (a.id - b.id))) := by
  refine Pure.of_run hmix Try.func35 (by kernel_rfl) rfl ⟨Try.ntmps35, by simp⟩ ?_
  simp [encCell]
  refine condR_mk (fun h => ?_) (fun h => ?_) <;> simp [h] <;> simp at h <;> simp [h]
end Go.Proofs.YtfodigfliiemeaaA
