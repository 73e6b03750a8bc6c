/- The program's regions: sorts, the map of what stands where. -/
import Derived.Test.YtmcfgljdpjalfaaD6
import Derived.Test.YtmcfgljdpjalfaaDP
import Derived.Test.YtmcfgljdpjalfaaS
import Derived.Test.YtmcfgljdpjalfaaVI
set_option linter.unusedVariables false
set_option linter.unusedSimpArgs false
set_option linter.constructorNameAsVariable false
set_option linter.unusedSectionVars false
namespace Go.Proofs.YtmcfgljdpjalfaaV
open Go.RowKit Go.Proofs
attribute [local simp ↓] run_nil run_seq run_skip run_region run_draw run_cond run_block run_exit run_ret run_b run_l run_k rexit_c rexit_l rexit_k rexit_b rops_nil rplan_nil rops_cons rops_guard rplan_cons rplan_two condR_true condR_false
attribute [local simp] planR_some planR_guard rrest_o rrest_p gS_some gR_tt gR_ff gR_ft gR_tf gR_tup valP_some valP_none valE_some valE_none valS_some opR_move opR_assign opR_pick opR_binOp opR_unOp opR_convert opR_convertl opR_extract opR_field opR_fieldAddr opR_indexAddr opR_index opR_slice opR_makeFunc opR_build opR_load opR_loadl opR_p opR_store opR_alloc opR_box opR_buildSlice opR_makeSlice opR_allocc opR_boxc opR_buildSlicec opR_makeSlicec opR_len opR_append opR_clear opR_call opR_callc opR_makeMap opR_makeMapc opR_mapEntry opR_lookup opR_lookupl opR_mapUpdate opR_insert opR_entryStore
attribute [local simp] evP boxAV allocAV okCells_agg okCells_sl okCells_so okCells_int okCells_bool okCells_str okCells_nilp okCells_nilfn okCells_ptr okCells_fn okCells_ub loadAV loadEl storeAV storeEl partAV partAV0 fieldAV fieldAddrAV indexAddrAV indexAV lenAV sliceAV boundAV fieldAt? elemOf? kindOf look cst updO upd dstOk binAV_int binAV_str binAV_bool binAV_fn binAV_nilfn binAV_agg binAV_sl eqUb binInt binStr isShift shiftInt unAV convAV bytesAV bytesOf clearAV TD.agg RetQ resAV resAVs resAV1 F0 AV.ret AV.retL St.empty fnOf_fn gslot buildAV fillAV placesAV buildSliceAV makeSliceAV appendAV appRow_so appRow_nil listAV_sl listAV_so cutL fillE zeroElem? addRows_nil le_refl leL_refl le_agg le_tup le_int le_bool le_str le_sl leL_nil leL_cons conv0 conv_tk arg_tk res_tk fzn_tk fzn_so fzn_elo fzn_ptr res_so deep_tk tkArg_ro tkArg_fz tkArg_nil tkRes_ro tkRes_nil tkRes_fz conv_so arg_so deepc_so deepa_so at_new at_nil at_box live_at' new_len new_box put_len put_box retL_append retL_take retL_drop retL_set retL_replicate at_fzn fzn_len fzn_mo res_mo arg_mo conv_mo makeMapAV mapAV lookAV keyBits keyBits1 allBits keyOk basicD updL En.body fzn_box
attribute [local simp] encV encA encI encSl encC encSp encM encS encMo eqV10 eqV0 eqA10 eqSp10 eqOp retL_V retL_A retL_I retL_C retL_Sp retL_M retL_Sl_conv retL_Sl_arg retL_Sl_res retL_Sl_fzn retL_Sl_dc retL_Sl_da retL_G_conv retL_G_arg retL_G_res retL_G_fzn retL_G_dc retL_G_da T_int T_bool T_u8 T_string T_MarkL T_Slots T_StateT T_RegionL T_Alts T_ints T_Region T_Mark T_Value T_Alt T_Slot T_Cells T_ModelT T_Cell T_seqSlot T_mapSpot T_SpotL T_Spot T_yieldSlot
theorem Fsound.mono {P : Program} {f : Nat} {s : St} {args : List AV} {R R' : St → AV → Prop} (h : Fsound P f s args R) (hR : ∀ s' r, R s' r → R' s' r) : Fsound P f s args R' :=
  ⟨h.1, fun Im φ B w vals hI hr => (h.2 Im φ B w vals hI hr).mono fun e w' hh => by
    obtain ⟨φ', s', r, v, e1, e2, e3, e4, e5⟩ := hh
    exact ⟨φ', s', r, v, e1, e2, e3, e4, hR _ _ e5⟩⟩
theorem SortSpot_sound {s : St} {n m : Nat} {l : List SpotV} (ha : s.at n = some (64, 2, l.map encSp)) (hl : l.length < 1000000000) (hm : l.length = m) :
    Fsound Try.prog 19 s [.so n 0 m, .fn 20 []] fun s' r => r = .tup [] ∧ ∃ l' : List SpotV, l'.Perm l ∧ l'.Pairwise (fun a b => cfSp a b ≤ 0) ∧ s' = s.put n (64, 2, l'.map encSp) := by
  subst hm
  exact sort_sound Try.sortSpot (sz := 2) (by decide) (fun w => run_isAgg (tabOf_ok _) T_Spot w) (fun w => run_size (tabOf_ok _) T_Spot w) (enters_of' Try.func19 (by kernel_rfl) rfl) flatSp.plain (fun a => ⟨_, rfl⟩) (cf := cfSp)
    (fun a => by simp [cfSp, cmpI]) (fun a b => by unfold cfSp cmpI; split <;> split <;> (repeat' split) <;> omega) (fun a b d => by unfold cfSp cmpI; (repeat' split) <;> omega)
    (ok := fun _ => True) (fun a b _ _ => Spots_pure a b) (enters_of' Try.func20 (by kernel_rfl) rfl) (fun _ _ => trivial) (by omega) ha
theorem SortInt_same {s : St} {n : Nat} {l : List Int} (ha : s.at n = some (3, 1, l.map encI)) (hl : l.length < 1000000000) (hs : l.Pairwise (· < ·)) :
    Fsound Try.prog 21 s [.so n 0 l.length] fun s' r => r = .tup [] ∧ s' = s := by
  refine Fsound.mono (sortInt_sound Try.sortInt (enters_of' Try.func21 (by kernel_rfl) rfl) (s := s) (n := n) (e := 3) (l := l) ha hl) fun s' r h => ?_
  obtain ⟨h1, h2⟩ := h
  refine ⟨h1, ?_⟩
  rw [h2, List.mergeSort_of_pairwise (hs.imp fun h => by simpa using Int.le_of_lt h)]
  have ha' : s.at n = some (3, 1, l.map encInt) := ha
  unfold St.at at ha'
  obtain ⟨b, r⟩ := s
  simp only [St.put, St.mk.injEq, true_and]
  have hr : r[n]? = some (some (3, 1, l.map encInt)) := by
    cases hq : r[n]? with
    | none => simp [hq] at ha'
    | some y => simp [hq] at ha'; rw [ha']
  exact List.ext_getElem? fun k => by
    rw [List.getElem?_set]
    split
    · rename_i hk; subst hk; rw [hr]; simp [(List.getElem?_eq_some_iff.1 hr).1]
    · rfl
/-! ### The map of what stands where -/
def key3 (g : G3) : SpotV := ⟨g.id, g.field⟩
def encMp (g : G3) : AV := .tup [encSp (key3 g), .so g.row 0 g.ents.length]
/-- Where a key stands among the map's pairs. -/
def posG (L : List G3) (p : SpotV) : Nat := (L.takeWhile fun g => decide (key3 g ≠ p)).length
theorem posG_cons (g : G3) (L : List G3) (p : SpotV) : posG (g :: L) p = if key3 g = p then 0 else posG L p + 1 := by
  unfold posG
  rw [List.takeWhile_cons]
  by_cases h : key3 g = p <;> simp [h]
theorem keyBits_Sp (p : SpotV) : keyBits (.agg [.int .i64 p.id, .int .i64 p.field]) (.agg [.int .i64 p.id, .int .i64 p.field]) = true := by simp
theorem find_G3 (p : SpotV) : ∀ (L : List G3) (j : Nat), findAV (tabOf Try.prog) 64 (.agg [.int .i64 p.id, .int .i64 p.field]) j (L.map encMp) = some (L[posG L p]?.map fun g => (j + posG L p, .so g.row 0 g.ents.length))
  | [], j => by simp [findAV]
  | g :: L, j => by
    have ih := find_G3 p L (j + 1)
    simp only [List.map_cons, encMp, encSp, findAV]
    rw [posG_cons]
    by_cases h : key3 g = p
    · rw [← h, eqSp10, if_pos rfl]
      simp only [decide_true, keyBits_Sp, if_true]
      simp
    · have h' : ¬ p = key3 g := fun e => h e.symm
      rw [eqSp10, if_neg h]
      simp only [h', decide_false, ih, List.getElem?_cons_succ, Option.some.injEq]
      have e : j + 1 + posG L p = j + (posG L p + 1) := by omega
      rw [e]
theorem posG_none {L : List G3} {p : SpotV} (h : L[posG L p]? = none) : posG L p = L.length := by
  have h1 : posG L p ≤ L.length := (List.takeWhile_prefix _).length_le
  have h2 := List.getElem?_eq_none_iff.1 h
  omega
/-- One more entity in a slot, in row n. -/
def addM (L : List G3) (c : CellV) (n : Nat) : List G3 :=
  match L[posG L (keyC c)]? with
  | some g => L.set (posG L (keyC c)) ⟨c.v.ref, c.v.n, g.ents ++ [c.id], n⟩
  | none => L ++ [⟨c.v.ref, c.v.n, [c.id], n⟩]
theorem addM_F : ∀ (L : List G3) (c : CellV) (n : Nat), (addM L c n).map g2 = addF (L.map g2) c
  | [], c, n => by simp [addM, addF, posG, g2]
  | g :: L, c, n => by
    have ih := addM_F L c n
    simp only [List.map_cons, addF]
    have ek : keyG (g2 g) = key3 g := rfl
    rw [ek]
    unfold addM at ih ⊢
    rw [posG_cons]
    by_cases h : key3 g = keyC c
    · rw [if_pos h, if_pos h]
      have e1 : c.v.ref = g.id := by have := congrArg SpotV.id h; exact this.symm
      have e2 : c.v.n = g.field := by have := congrArg SpotV.field h; exact this.symm
      simp [g2, e1, e2]
    · rw [if_neg h, if_neg h, ← ih]
      simp only [List.getElem?_cons_succ]
      cases L[posG L (keyC c)]? <;> simp
theorem addF_len : ∀ (L : List G2) (c : CellV), (addF L c).length ≤ L.length + 1
  | [], c => by simp [addF]
  | g :: L, c => by
    have := addF_len L c
    simp only [addF]
    split
    · simp
    · simp; omega
theorem groupsF_len (cs : List CellV) : (groupsF cs).length ≤ cs.length := by
  have go : ∀ (cs : List CellV) (L : List G2), (cs.foldl addF L).length ≤ L.length + cs.length := by
    intro cs
    induction cs with
    | nil => intro L; simp
    | cons c cs ih =>
      intro L
      have h1 := ih (addF L c)
      have h2 := addF_len L c
      simp only [List.foldl_cons, List.length_cons]
      omega
  simpa [groupsF] using go cs []
theorem groupsF_ents (cs : List CellV) {g : G2} (h : g ∈ groupsF cs) : g.ents.length ≤ cs.length := by
  have := groupsF_ok cs _ (Nat.le_refl _)
  rw [List.take_length] at this
  rw [this.2.2 g h]
  unfold entsOf
  rw [List.length_map]
  exact List.length_filter_le _ _
theorem posG_key {p : SpotV} {g : G3} : ∀ {L : List G3}, L[posG L p]? = some g → key3 g = p
  | [], h => by simp at h
  | x :: L, h => by
    rw [posG_cons] at h
    split at h
    · rename_i hx; simp at h; rw [← h]; exact hx
    · exact posG_key (L := L) (by simpa using h)
theorem posG_mem {p : SpotV} : ∀ {L : List G3}, (∃ g ∈ L, key3 g = p) → ∃ g, L[posG L p]? = some g
  | [], h => by simp at h
  | x :: L, h => by
    rw [posG_cons]
    split
    · exact ⟨x, rfl⟩
    · rename_i hx
      obtain ⟨g, hg, e⟩ := h
      rcases List.mem_cons.1 hg with rfl | hg
      · exact absurd e hx
      · simpa using posG_mem (L := L) ⟨g, hg, e⟩
theorem row_same {s : St} {n : Nat} {p : RowC} (h : s.at n = some p) : s.row.set n (some p) = s.row := by
  have hr : s.row[n]? = some (some p) := by
    unfold St.at at h
    cases hq : s.row[n]? with
    | none => simp [hq] at h
    | some y => simp [hq] at h; rw [h]
  exact List.ext_getElem? fun k => by
    rw [List.getElem?_set]
    split
    · rename_i hk; subst hk; rw [hr]; simp [(List.getElem?_eq_some_iff.1 hr).1]
    · rfl
theorem keyOk_Sp (a b : Int) : keyOk (tabOf Try.prog) 64 (.agg [.int .i64 a, .int .i64 b]) = true := by simp [keyOk, kindOf]
theorem zero_ints : zeroAV (tabOf Try.prog) 34 = some (.sl 0 0 .nil []) := by simp [zeroAV]
theorem mapAV_M {s : St} {M : Nat} {xs : List AV} (b : List (Nat × List AV)) (h : s.at M = some (61, 0, xs)) : mapAV (tabOf Try.prog) ⟨b, s.row⟩ 61 (.mo M) = some (64, 34, M, 61, xs) := by
  simp [mapAV, h]
def ansG (L : List G3) (p : SpotV) : AV := match L[posG L p]? with | some g => .so g.row 0 g.ents.length | none => .sl 0 0 .nil []
theorem look_M {s : St} {M : Nat} {L : List G3} {b : List (Nat × List AV)} (p : SpotV) (h : s.at M = some (61, 0, L.map encMp)) : lookupAV (tabOf Try.prog) ⟨b, s.row⟩ 61 (.mo M) (.agg [.int .i64 p.id, .int .i64 p.field]) false = some (ansG L p) := by
  unfold lookupAV ansG
  rw [mapAV_M b h]
  simp only [keyOk_Sp, if_true, find_G3, zero_ints]
  cases L[posG L p]? <;> simp
theorem entry_M_some {s : St} {M : Nat} {L : List G3} (p : SpotV) (h : s.at M = some (61, 0, L.map encMp)) {g : G3} (hg : L[posG L p]? = some g) : mapEntryAV (tabOf Try.prog) s 61 (.mo M) (.agg [.int .i64 p.id, .int .i64 p.field]) = some (.tup [.so g.row 0 g.ents.length, .int .i64 (posG L p)], s) := by
  have hkey := posG_key hg
  have hset : (L.map encMp).set (posG L p) (.tup [.agg [.int .i64 p.id, .int .i64 p.field], .so g.row 0 g.ents.length]) = L.map encMp := by
    apply List.ext_getElem?
    intro k
    rw [List.getElem?_set]
    split
    · rename_i e
      subst e
      rw [List.getElem?_map, hg]
      have := (List.getElem?_eq_some_iff.1 hg).1
      simp [this, encMp, encSp, hkey]
    · rfl
  unfold mapEntryAV
  rw [show mapAV (tabOf Try.prog) s 61 (.mo M) = _ from mapAV_M s.box h]
  simp only [keyOk_Sp, if_true, find_G3, zero_ints, hg, Option.map_some, Nat.zero_add]
  rw [hset, row_same h]
theorem entry_M_none {s : St} {M : Nat} {L : List G3} (p : SpotV) (h : s.at M = some (61, 0, L.map encMp)) (hg : L[posG L p]? = none) : mapEntryAV (tabOf Try.prog) s 61 (.mo M) (.agg [.int .i64 p.id, .int .i64 p.field]) = some (.tup [.sl 0 0 .nil [], .int .i64 L.length], ⟨s.box, s.row.set M (some (61, 0, L.map encMp ++ [.tup [.agg [.int .i64 p.id, .int .i64 p.field], .sl 0 0 .nil []]]))⟩) := by
  unfold mapEntryAV
  rw [show mapAV (tabOf Try.prog) s 61 (.mo M) = _ from mapAV_M s.box h]
  simp only [keyOk_Sp, if_true, find_G3, zero_ints, hg, Option.map_none, List.length_map]
theorem store_M {s : St} {M i : Nat} {xs : List AV} {k v0 v : AV} (h : s.at M = some (61, 0, xs)) (hi : xs[i]? = some (.tup [k, v0])) : entryStoreAV (tabOf Try.prog) s 61 (.mo M) (.int .i64 i) v = some ⟨s.box, s.row.set M (some (61, 0, xs.set i (.tup [k, v])))⟩ := by
  unfold entryStoreAV
  rw [show mapAV (tabOf Try.prog) s 61 (.mo M) = _ from mapAV_M s.box h]
  have e : keyAt xs i = some k := by unfold keyAt; rw [hi]
  simp [e]
/-- The rows of the map's slices. -/
def MRows (L : List G3) (out : List Nat) (s : St) : Prop := (∀ g ∈ L, s.at g.row = some (3, 1, g.ents.map encI) ∧ g.row ∉ out ∧ g.ents ≠ []) ∧ (L.map (·.row)).Nodup
theorem MRows.mono {L : List G3} {out out' : List Nat} {s s' : St} (h : MRows L out s) (same : ∀ g ∈ L, s'.at g.row = s.at g.row) (ho : ∀ g ∈ L, g.row ∉ out') : MRows L out' s' :=
  ⟨fun g hg => ⟨by rw [same g hg]; exact (h.1 g hg).1, ho g hg, (h.1 g hg).2.2⟩, h.2⟩
theorem addM_some {L : List G3} {c : CellV} {n : Nat} {g : G3} (h : L[posG L (keyC c)]? = some g) : addM L c n = L.set (posG L (keyC c)) ⟨c.v.ref, c.v.n, g.ents ++ [c.id], n⟩ := by
  unfold addM; rw [h]
theorem addM_none {L : List G3} {c : CellV} {n : Nat} (h : L[posG L (keyC c)]? = none) : addM L c n = L ++ [⟨c.v.ref, c.v.n, [c.id], n⟩] := by
  unfold addM; rw [h]
/-- The map's rows behind one more entity, that lies in a new row. -/
theorem MRows.set {L : List G3} {out out' : List Nat} {s s' : St} (h : MRows L out s) {k : Nat} (hk : k < L.length) (x : G3) (hx : s'.at x.row = some (3, 1, x.ents.map encI)) (hxo : x.row ∉ out') (hxe : x.ents ≠ []) (hxn : s.row.length ≤ x.row)
    (same : ∀ g ∈ L, g.row ≠ L[k].row → s'.at g.row = s.at g.row) (ho : ∀ g ∈ L, g.row ∉ out') : MRows (L.set k x) out' s' := by
  have ne : ∀ j (hj : j < L.length), k ≠ j → L[j].row ≠ L[k].row := fun j hj hne => by
    have hp := List.pairwise_iff_getElem.1 h.2
    rcases Nat.lt_or_ge k j with hl | hl
    · have := hp k j (by simpa using hk) (by simpa using hj) hl
      simpa using this.symm
    · have := hp j k (by simpa using hj) (by simpa using hk) (by omega)
      simpa using this
  refine ⟨fun g hg => ?_, ?_⟩
  · obtain ⟨j, hj, rfl⟩ := List.getElem_of_mem hg
    simp only [List.length_set] at hj
    rw [List.getElem_set]
    split
    · exact ⟨hx, hxo, hxe⟩
    · rename_i hne
      have hgm := List.getElem_mem hj
      exact ⟨by rw [same _ hgm (ne j hj hne)]; exact (h.1 _ hgm).1, ho _ hgm, (h.1 _ hgm).2.2⟩
  · rw [List.map_set]
    refine nodup_set h.2 fun q => ?_
    obtain ⟨g, hg, e⟩ := List.mem_map.1 q
    have := at_lt (h.1 g hg).1
    omega
theorem MRows.app {L : List G3} {out out' : List Nat} {s s' : St} (h : MRows L out s) (x : G3) (hx : s'.at x.row = some (3, 1, x.ents.map encI)) (hxo : x.row ∉ out') (hxe : x.ents ≠ []) (hxn : s.row.length ≤ x.row)
    (same : ∀ g ∈ L, s'.at g.row = s.at g.row) (ho : ∀ g ∈ L, g.row ∉ out') : MRows (L ++ [x]) out' s' := by
  refine ⟨fun g hg => ?_, ?_⟩
  · rcases List.mem_append.1 hg with hg | hg
    · exact ⟨by rw [same g hg]; exact (h.1 g hg).1, ho g hg, (h.1 g hg).2.2⟩
    · rw [List.mem_singleton.1 hg]; exact ⟨hx, hxo, hxe⟩
  · rw [List.map_append, List.nodup_append]
    refine ⟨h.2, by simp, fun a ha b hb => ?_⟩
    obtain ⟨g, hg, rfl⟩ := List.mem_map.1 ha
    have := at_lt (h.1 g hg).1
    simp at hb
    omega
/-- The crowds among some places. -/
def selOne (L : List G3) (p : SpotV) : Option G3 := match L[posG L p]? with | some g => if 1 < g.ents.length then some g else none | none => none
def selF (L : List G3) (ps : List SpotV) : List G3 := ps.filterMap (selOne L)
theorem selF_suc (L : List G3) (ps : List SpotV) (i : Nat) (h : i < ps.length) : selF L (ps.take (i + 1)) = selF L (ps.take i) ++ (selOne L ps[i]).toList := by
  unfold selF
  rw [List.take_succ_eq_append_getElem h, List.filterMap_append]
  congr 1
theorem sel_eq {l : List CellV} {L : List G3} {ps : List SpotV} (hL : L.map g2 = groupsF (l.filter crowdB)) (hp : ps.Perm (L.map key3)) (hs : ps.Pairwise fun a b => cfSp a b ≤ 0) : (selF L ps).map g2 = (groupsR l).filter fun g => decide (1 < g.ents.length) := by
  have ek : L.map key3 = (groupsF (l.filter crowdB)).map keyG := by rw [← hL, List.map_map]; rfl
  have hps := places_eq l ps (by rw [← ek]; exact hp) hs
  obtain ⟨e1, e2⟩ := ents_eq l
  have one : ∀ r ∈ groupsR l, ∃ g, L[posG L (keyG r)]? = some g ∧ g2 g = r := by
    intro r hr
    have hm : keyG r ∈ L.map key3 := hp.mem_iff.1 (by rw [hps]; exact List.mem_map_of_mem hr)
    obtain ⟨g, hg⟩ := posG_mem (List.mem_map.1 hm)
    have hk := posG_key hg
    refine ⟨g, hg, ?_⟩
    have h1 := e1 (g2 g) (by rw [← hL]; exact List.mem_map_of_mem (List.mem_of_getElem? hg))
    have h2 := e2 r hr
    have hk2 : keyG (g2 g) = keyG r := hk
    rw [hk2, ← h2] at h1
    have i1 : g.id = r.id := congrArg SpotV.id hk
    have i2 : g.field = r.field := congrArg SpotV.field hk
    cases r with
    | mk a b c =>
      show G2.mk g.id g.field g.ents = G2.mk a b c
      rw [show g.id = a from i1, show g.field = b from i2, show g.ents = c from h1]
  rw [hps]
  have go : ∀ R : List G2, (∀ r ∈ R, ∃ g, L[posG L (keyG r)]? = some g ∧ g2 g = r) → (selF L (R.map keyG)).map g2 = R.filter fun g => decide (1 < g.ents.length) := by
    intro R
    induction R with
    | nil => intro _; rfl
    | cons r R ih =>
      intro h
      obtain ⟨g, hg, he⟩ := h r (by simp)
      have ih := ih fun x hx => h x (by simp [hx])
      unfold selF at ih ⊢
      simp only [List.map_cons, List.filterMap_cons, selOne, hg]
      have hl : g.ents.length = r.ents.length := by rw [← he]; rfl
      by_cases q : 1 < g.ents.length
      · rw [if_pos q]
        simp only [List.map_cons, he]
        rw [List.filter_cons_of_pos (by simp; omega)]
        exact congrArg _ ih
      · rw [if_neg q, List.filter_cons_of_neg (by simp; omega)]
        exact ih
  exact go _ one
theorem sel_crowds {l : List CellV} {S : List G3} (h : S.map g2 = (groupsR l).filter fun g => decide (1 < g.ents.length)) : AV.leL (S.map encG3z) ((crowdsF l).map encG) := by
  unfold crowdsF
  rw [← h, List.map_map, List.map_map]
  refine leL_maps _ fun g _ => ?_
  simp [encG3z, encG, g2, AV.le, AV.leL, leL_refl]
theorem selF_mem {L : List G3} {ps : List SpotV} {g : G3} (h : g ∈ selF L ps) : g ∈ L := by
  unfold selF at h
  obtain ⟨p, _, e⟩ := List.mem_filterMap.1 h
  unfold selOne at e
  split at e
  · rename_i x hx
    split at e
    · injection e with e; rw [← e]; exact List.mem_of_getElem? hx
    · cases e
  · cases e
theorem selF_len (L : List G3) (ps : List SpotV) : (selF L ps).length ≤ ps.length := List.length_filterMap_le _ _
end Go.Proofs.YtmcfgljdpjalfaaV
