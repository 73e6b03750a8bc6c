/- The abstract layer, fourth text: the operations of the third text do what they say. -/
import Derived.Test.YtmcfgljdpjalfaaV3
set_option linter.unusedVariables false
set_option linter.unusedSimpArgs false
set_option linter.constructorNameAsVariable false
set_option linter.unusedSectionVars false
namespace Go.Proofs.YtmcfgljdpjalfaaV
open Go.RowKit

section
variable {P : Program} {T : Tab} (hT : TabOk P T) {Im : Nat → Prop} {φ : Emb} {s : St} {B : Nat} {w : World}
include hT

omit hT in
theorem unAV_ok {op : UnOp} {x z : AV} {v : Value} (h : unAV op x = some z) (hx : rel Im φ s B w x v) : ∃ u, (∀ w', (Op.unary op v).run P w' = .ok u w') ∧ rel Im φ s B w z u := by
  unfold unAV at h
  split at h
  · injection h with h; subst h
    simp only [rel] at hx; subst hx
    exact ⟨.bool _, fun w' => by simp only [Op.unary]; rfl, by simp only [rel]⟩
  · injection h with h; subst h
    simp only [rel] at hx; obtain ⟨b, rfl⟩ := hx
    exact ⟨.bool _, fun w' => by simp only [Op.unary]; rfl, by simp only [rel]; exact ⟨_, rfl⟩⟩
  · injection h with h; subst h
    simp only [rel] at hx; subst hx
    exact ⟨.int _ _, fun w' => by simp only [Op.unary, Op.intArith]; rfl, by simp only [rel]⟩
  · cases h

theorem convAV_ok {src dst : Nat} {x z : AV} {v : Value} (h : convAV T src dst x = some z) (hx : rel Im φ s B w x v) : ∃ u, (∀ w', (convert src dst v).run P w' = .ok u w') ∧ rel Im φ s B w z u := by
  unfold convAV at h
  split at h
  · rename_i k1 k k' n h1 h2
    injection h with h; subst h
    simp only [rel] at hx; subst hx
    refine ⟨_, fun w' => ?_, by simp only [rel]; rfl⟩
    unfold convert
    rw [Sem.run_bind, kindOf_run hT h1]
    simp only [Result.andThen_ok]
    rw [Sem.run_bind, kindOf_run hT h2]
    simp [Conv.intToInt]
  · rename_i h1 h2
    injection h with h; subst h
    simp only [rel] at hx; subst hx
    rename_i s0
    refine ⟨.string s0, fun w' => ?_, by simp only [rel]⟩
    unfold convert
    rw [Sem.run_bind, kindOf_run hT h1]
    simp only [Result.andThen_ok]
    rw [Sem.run_bind, kindOf_run hT h2]
    simp
  · cases h

omit hT in
theorem fieldAt?_spec {st f : Nat} {fd : Field} {d : TD} (h : fieldAt? T st f = some (fd, d)) : ∃ fs, kindOf T st = some (.struct fs) ∧ fs[f]? = some fd ∧ T fd.type = some d := by
  unfold fieldAt? at h
  split at h
  · rename_i fs hk
    split at h
    · rename_i fd' hf
      split at h
      · rename_i d' hd
        simp only [Option.some.injEq, Prod.mk.injEq] at h
        obtain ⟨rfl, rfl⟩ := h
        exact ⟨fs, hk, hf, hd⟩
      · cases h
    · cases h
  · cases h
omit hT in
theorem elemOf?_spec {t e : Nat} {d : TD} (h : elemOf? T t = some (e, d)) : kindOf T t = some (.slice e) ∧ T e = some d := by
  unfold elemOf? at h
  split at h
  · rename_i e' hk
    split at h
    · rename_i d' hd
      simp only [Option.some.injEq, Prod.mk.injEq] at h
      obtain ⟨rfl, rfl⟩ := h
      exact ⟨hk, hd⟩
    · cases h
  · cases h

theorem fieldAddrAV_ok {st f : Nat} {x z : AV} {v : Value} (h : fieldAddrAV T s st f x = some z) (hx : rel Im φ s B w x v) : ∃ u, (∀ w', (Instr.fieldAt st v f).run P w' = .ok u w') ∧ rel Im φ s B w z u := by
  unfold fieldAddrAV at h
  split at h
  · rename_i fd d hf
    obtain ⟨fs, hk, hfs, hd⟩ := fieldAt?_spec hf
    split at h
    · cases h
    · rename_i hsz
      have run : ∀ (a : Addr) w', (Instr.fieldAt st (.pointer (some a)) f).run P w' = .ok (.pointer (some (a.add fd.offset))) w' := by
        intro a w'
        unfold Instr.fieldAt
        rw [Sem.run_bind, kindOf_run hT hk]
        simp only [Result.andThen_ok]
        simp only [hfs, Instr.sureAddr, Sem.run_bind, Sem.run_pure, Result.andThen_ok]
        unfold fieldPlace
        simp [run_size hT hd, hsz]
      split at h
      · injection h with h; subst h
        simp only [rel] at hx; obtain ⟨h1, rfl⟩ := hx
        exact ⟨_, run _, by simp only [rel, Addr.add_lit']; exact ⟨h1, trivial⟩⟩
      · injection h with h; subst h
        simp only [rel] at hx; obtain ⟨cs, sv, a, m, c, h1, h2, h3, h4, rfl⟩ := hx
        refine ⟨_, run _, ?_⟩
        simp only [rel]
        exact ⟨cs, sv, a, m, c, h1, h2, h3, h4, by rw [Addr.add_add', Nat.add_assoc]⟩
      · split at h
        · rename_i n i off hl
          injection h with h; subst h
          simp only [rel] at hx; obtain ⟨hn, hx⟩ := hx
          simp only [rel]
          obtain ⟨e, sz, xs, ha⟩ := live_at hl
          obtain ⟨h0, h1, g, h2, rfl⟩ := hx _ _ _ ha
          refine ⟨_, run _, hn, fun e2 sz2 xs2 ha2 => ?_⟩
          obtain ⟨h00, h3, g', h4, h5⟩ := hx _ _ _ ha2
          refine ⟨h00, h3, g', h4, ?_⟩
          injection h5 with h5; injection h5 with h5; injection h5 with h5 h6
          subst h5
          rw [Addr.add_lit', h6, Nat.add_assoc]
        · cases h
      · cases h
  · cases h

theorem fieldAV_ok {st f : Nat} {x z : AV} {v : Value} (h : fieldAV T st f x = some z) (hx : rel Im φ s B w x v) : ∃ u, (∀ w', (Instr.field st v f).run P w' = .ok u w') ∧ rel Im φ s B w z u := by
  unfold fieldAV at h
  split at h
  · rename_i fd d xs hf
    obtain ⟨fs, hk, hfs, hd⟩ := fieldAt?_spec hf
    simp only [rel] at hx
    obtain ⟨cs, rfl, hr, h1⟩ := hx
    obtain ⟨u, hu, hru⟩ := part_ok hT hd h hr h1
    refine ⟨u, fun w' => ?_, hru⟩
    unfold Instr.field
    rw [Sem.run_bind, kindOf_run hT hk]
    simp only [Result.andThen_ok, hfs, asAgg, Sem.run_bind, Sem.run_pure, hu]
  · cases h

theorem indexAddrAV_ok {t : Nat} {x ix z : AV} {v vi : Value} (h : indexAddrAV T s t x ix = some z) (hx : rel Im φ s B w x v) (hi : rel Im φ s B w ix vi) : ∃ u, (∀ w', (Instr.indexAt t v vi).run P w' = .ok u w') ∧ rel Im φ s B w z u := by
  unfold indexAddrAV at h
  split at h
  · rename_i e d e' sz tk xs k i he
    obtain ⟨hk, hd⟩ := elemOf?_spec he
    split at h
    · rename_i hc
      obtain ⟨c2, c3, c4⟩ := hc
      injection h with h; subst h
      simp only [rel] at hx hi
      subst hi
      obtain ⟨cs, hF, hm⟩ := hx
      obtain ⟨A, c, rfl, hc⟩ := hm.slice
      obtain ⟨a, rfl, _, _⟩ := hm.at_ (by omega)
      refine ⟨.pointer (some (a.add (i.toNat * sz))), fun w' => ?_, ?_⟩
      · unfold Instr.indexAt
        simp only [asIntOf, Sem.run_bind, Sem.run_pure, Result.andThen_ok, kindOf_run hT hk, run_size hT hd, if_pos (And.intro c3 c4)]
        simp [c2]
      · simp only [rel]
        exact ⟨cs, _, a, _, _, hF, hm, rfl, by omega, by rw [Nat.add_zero]⟩
    · cases h
  · rename_i e d n off len k i he
    obtain ⟨hk, hd⟩ := elemOf?_spec he
    split at h
    · rename_i e' sz xs ha
      split at h
      · rename_i hc
        obtain ⟨c2, c3, c4⟩ := hc
        injection h with h; subst h
        simp only [rel] at hx hi
        subst hi
        obtain ⟨hn, hx⟩ := hx
        obtain ⟨hl, hv⟩ := hx _ _ _ ha
        obtain ⟨h00, hv⟩ := hv
        rcases hv with ⟨_, _, rfl, rfl⟩ | ⟨g, cap, p, hg, hR, hlc, rfl, hp, _⟩
        · simp at c4; omega
        · refine ⟨.pointer (some ⟨g, p + i.toNat * sz, none⟩), fun w' => ?_, ?_⟩
          · unfold Instr.indexAt
            simp only [asIntOf, Sem.run_bind, Sem.run_pure, Result.andThen_ok, kindOf_run hT hk, run_size hT hd, if_pos (And.intro c3 c4)]
            simp [c2, Addr.add_lit']
          · simp only [rel]
            refine ⟨hn, fun e2 sz2 xs2 ha2 => ?_⟩
            rw [ha] at ha2
            simp only [Option.some.injEq, Prod.mk.injEq] at ha2
            obtain ⟨rfl, rfl, rfl⟩ := ha2
            refine ⟨h00, by omega, g, hg, ?_⟩
            rw [hp (by omega), Nat.add_zero, Nat.add_mul]
      · cases h
    · cases h
  · cases h

theorem indexAV_ok {t : Nat} {x ix z : AV} {v vi : Value} (h : indexAV T t x ix = some z) (hx : rel Im φ s B w x v) (hi : rel Im φ s B w ix vi) : ∃ u, (∀ w', (Instr.index t v vi).run P w' = .ok u w') ∧ rel Im φ s B w z u := by
  unfold indexAV at h
  split at h
  · rename_i x' k i hk
    split at h
    · rename_i h0
      split at h
      · rename_i b hb
        injection h with h; subst h
        simp only [rel] at hx hi
        subst hi hx
        refine ⟨.int .u8 b.toNat, fun w' => ?_, by simp only [rel]⟩
        unfold Instr.index
        simp only [asIntOf, Sem.run_bind, Sem.run_pure, Result.andThen_ok, kindOf_run hT hk, if_pos h0, hb]
      · cases h
    · cases h
  · cases h

theorem lenAV_ok {t : Nat} {ty : Nat} {x z : AV} {v : Value} (h : lenAV T s t x = some z) (hx : rel Im φ s B w x v) : ∃ u, (∀ w', (Builtin.len_ #[t] ty #[v]).run P w' = .ok u w') ∧ rel Im φ s B w z u := by
  unfold lenAV at h
  split at h
  · rename_i e e' sz tk xs hk
    injection h with h; subst h
    simp only [rel] at hx
    obtain ⟨cs, hF, hm⟩ := hx
    obtain ⟨A, c, rfl, hc⟩ := hm.slice
    refine ⟨_, fun w' => ?_, by simp only [rel]; rfl⟩
    simp [Builtin.len_, kindOf_run hT hk, goInt]
  · rename_i e n off len hk
    split at h
    · rename_i hl
      injection h with h; subst h
      simp only [rel] at hx
      obtain ⟨e, sz, xs, ha⟩ := live_at hl
      obtain ⟨A, c, rfl, hc⟩ := (hx.2 _ _ _ ha).2.slice
      refine ⟨_, fun w' => ?_, by simp only [rel]; rfl⟩
      simp [Builtin.len_, kindOf_run hT hk, goInt]
    · cases h
  · rename_i x' hk
    injection h with h; subst h
    simp only [rel] at hx
    subst hx
    refine ⟨_, fun w' => ?_, by simp only [rel]; rfl⟩
    simp [Builtin.len_, kindOf_run hT hk, goInt]
  · cases h

omit hT in
theorem bound_run {x : AV} {v : Value} {d l y : Nat} {code : BoundsCode} (hx : rel Im φ s B w x v) (h : boundAV (some x) d = some l) (hl : l ≤ y) (w' : World) : (Instr.sliceBound v y code).run P w' = .ok l w' := by
  unfold boundAV at h
  split at h
  · rename_i he; cases he
  · rename_i k i he
    injection he with he
    subst he
    simp only [rel] at hx
    subst hx
    split at h
    · rename_i h0
      injection h with h
      simp only [Instr.sliceBound, asIntOf, Sem.run_bind, Sem.run_pure, Result.andThen_ok]
      rw [if_pos ⟨h0, by omega⟩, h]
      rfl
    · cases h
  · cases h

omit hT in
theorem bounds_run {F : Fr} {a : Act} (hF : Holds Im φ s B w F a) {lo hi : Option Operand} {l h n c : Nat} (b : Bool) (hl : boundAV (lo.map (look F)) 0 = some l) (hh : boundAV (hi.map (look F)) n = some h) (h1 : l ≤ h) (h2 : h ≤ c) (w' : World) :
    (Instr.sliceBounds b n c (lo.map a.eval) (hi.map a.eval) none).run P w' = .ok (l, h, c) w' := by
  unfold Instr.sliceBounds
  cases lo with
  | none =>
    simp only [Option.map_none, boundAV, Option.some.injEq] at hl
    subst hl
    cases hi with
    | none => simp only [Option.map_none, boundAV, Option.some.injEq] at hh; subst hh; rfl
    | some y =>
      simp only [Option.map_some, Sem.run_bind, Sem.run_pure, Result.andThen_ok]
      rw [bound_run (look_ok hF y) hh h2]
      rfl
  | some x =>
    cases hi with
    | none =>
      simp only [Option.map_none, boundAV, Option.some.injEq] at hh
      subst hh
      simp only [Option.map_none, Option.map_some, Sem.run_bind, Sem.run_pure, Result.andThen_ok]
      rw [bound_run (look_ok hF x) hl h1]
      rfl
    | some y =>
      simp only [Option.map_some, Sem.run_bind, Sem.run_pure, Result.andThen_ok]
      rw [bound_run (look_ok hF y) hh h2]
      simp only [Result.andThen_ok]
      rw [bound_run (look_ok hF x) hl h1]
      rfl

omit hT in
theorem Mem.cut {sz : Nat} {tk : Tok} {A : Option Addr} {n c l h : Nat} {cs : List Value} (hm : Mem Im φ s B w tk (.slice A n c) n cs) (hn : n ≤ c) (h1 : l ≤ h) (h2 : h ≤ n) :
    Mem Im φ s B w tk (.slice (if c = l then A else A.map (·.add (l * sz))) (h - l) (c - l)) (h - l) ((cs.take (h * sz)).drop (l * sz)) := by
  have hcells : ∀ a, CellsAt w a cs → CellsAt w (a.add (l * sz)) ((cs.take (h * sz)).drop (l * sz)) := by
    intro a hc j u hj
    rw [Addr.add_add']
    apply hc
    rw [List.getElem?_drop] at hj
    rw [List.getElem?_take] at hj
    split at hj
    · exact hj
    · cases hj
  cases tk with
  | nil =>
    obtain ⟨h3, rfl⟩ := hm
    injection h3 with h3 h4 h5
    subst h3 h5
    have : l = 0 := by omega
    subst this
    have : h = 0 := by omega
    subst this
    simp [Mem]
  | ro =>
    obtain ⟨A, c, h3, hc, h4⟩ := hm
    cases h3
    refine ⟨_, _, rfl, by omega, fun hp => ?_⟩
    have hp' : 0 < n := by omega
    have hne : c ≠ l := by omega
    obtain ⟨a, rfl, b1, b2, b3, b4⟩ := h4 hp'
    rw [if_neg hne]
    exact ⟨_, rfl, by rw [Addr.add_block']; exact b1, by rw [Addr.add_block']; exact b2, by rw [Addr.add_block']; exact b3, hcells a b4⟩
  | fz =>
    obtain ⟨A, c, h3, hc, h4⟩ := hm
    cases h3
    refine ⟨_, _, rfl, by omega, fun hp => ?_⟩
    have hp' : 0 < n := by omega
    have hne : c ≠ l := by omega
    obtain ⟨a, rfl, b1, b2, b3, b4⟩ := h4 hp'
    rw [if_neg hne]
    exact ⟨_, rfl, by rw [Addr.add_block']; exact b1, by rw [Addr.add_block']; exact b2, by rw [Addr.add_block']; exact b3, hcells a b4⟩

theorem sliceAV_ok {F : Fr} {a : Act} (hF : Holds Im φ s B w F a) {t : Nat} {x z : AV} {v : Value} {lo hi : Option Operand} (h : sliceAV T s t x (lo.map (look F)) (hi.map (look F)) = some z) (hx : rel Im φ s B w x v) :
    ∃ u, (∀ w', (Instr.sliceAt t v (lo.map a.eval) (hi.map a.eval) none).run P w' = .ok u w') ∧ rel Im φ s B w z u := by
  have runs : ∀ {e : Nat} {d : TD} {A : Option Addr} {n c l hh sz : Nat}, kindOf T t = some (.slice e) → T e = some d → boundAV (lo.map (look F)) 0 = some l → boundAV (hi.map (look F)) n = some hh → (d.size = sz ∨ l = 0) → l ≤ hh → hh ≤ n → n ≤ c →
      ∀ w', (Instr.sliceAt t (.slice A n c) (lo.map a.eval) (hi.map a.eval) none).run P w' = .ok (.slice (if c = l then A else A.map (·.add (l * sz))) (hh - l) (c - l)) w' := by
    intro e d A n c l hh sz hk hd hl hhi c2 c3 c4 hc w'
    unfold Instr.sliceAt
    rw [Sem.run_bind, kindOf_run hT hk]
    simp only [Result.andThen_ok]
    unfold Instr.slice
    rw [Sem.run_bind, kindOf_run hT hk]
    simp only [Result.andThen_ok]
    rw [Sem.run_bind, bounds_run hF true hl hhi c3 (by omega)]
    simp only [Result.andThen_ok]
    rw [Sem.run_bind, run_size hT hd]
    simp only [Result.andThen_ok]
    rcases c2 with c2 | c2
    · rw [c2]; rfl
    · subst c2; simp only [Nat.zero_mul]; rfl
  unfold sliceAV at h
  split at h
  · rename_i e sz tk xs
    split at h
    · rename_i e' d l hh he hl hhi
      obtain ⟨hk, hd⟩ := elemOf?_spec he
      split at h
      · rename_i hc
        obtain ⟨c2, c3, c4⟩ := hc
        injection h with h; subst h
        simp only [rel] at hx
        obtain ⟨cs, hFF, hm⟩ := hx
        obtain ⟨A, c, rfl, hc⟩ := hm.slice
        refine ⟨_, runs hk hd hl hhi c2 c3 c4 hc, ?_⟩
        simp only [rel]
        have hlen : ((xs.take hh).drop l).length = hh - l := by simp; omega
        rw [hlen]
        exact ⟨(cs.take (hh * sz)).drop (l * sz), relF_drop _ _ _ (relF_take _ _ _ hFF), hm.cut hc c3 c4⟩
      · cases h
    · cases h
  · rename_i n off len
    split at h
    · rename_i e' d l hh e2 sz xs he hl hhi ha
      obtain ⟨hk, hd⟩ := elemOf?_spec he
      split at h
      · rename_i hc
        obtain ⟨c2, c3, c4⟩ := hc
        injection h with h; subst h
        simp only [rel] at hx
        obtain ⟨hn, hx⟩ := hx
        obtain ⟨hol, hv⟩ := hx _ _ _ ha
        obtain ⟨A, c, rfl, hc⟩ := hv.slice
        refine ⟨_, runs hk hd hl hhi (.inl c2) c3 c4 hc, ?_⟩
        simp only [rel]
        refine ⟨hn, fun e3 sz3 xs3 ha3 => ?_⟩
        rw [ha] at ha3
        simp only [Option.some.injEq, Prod.mk.injEq] at ha3
        obtain ⟨rfl, rfl, rfl⟩ := ha3
        refine ⟨by omega, hv.1, ?_⟩
        rcases hv.2 with ⟨h1, rfl, rfl, h2⟩ | ⟨g, cap, p, h1, h2, h3, h4, h5, h6⟩
        · injection h2 with h2 _ h3
          subst h2 h3
          have : l = 0 := by omega
          subst this
          have : hh = 0 := by omega
          subst this
          exact .inl ⟨h1, rfl, rfl, by simp⟩
        · injection h4 with h4 _ h7
          subst h4 h7
          refine .inr ⟨g, c - l, (if c = l then p else p + l * sz), h1, by rw [show off + l + (c - l) = off + c by omega]; exact h2, by omega, ?_, fun hp => ?_, fun hz => ?_⟩
          · split <;> simp [Addr.add_lit']
          · rw [if_neg (by omega), h5 (by omega), Nat.add_mul]
          · have hl0 : l = 0 := by omega
            subst hl0
            have := h6 (by omega)
            split <;> simp [this]
      · cases h
    · cases h
  · rename_i x'
    split at h
    · rename_i l hh hk hl hhi
      split at h
      · rename_i hc
        obtain ⟨c3, c4⟩ := hc
        injection h with h; subst h
        simp only [rel] at hx
        subst hx
        refine ⟨.string (x'.extract l hh), fun w' => ?_, by simp only [rel]⟩
        unfold Instr.sliceAt
        rw [Sem.run_bind, kindOf_run hT hk]
        simp only [Result.andThen_ok]
        unfold Instr.slice
        rw [Sem.run_bind, kindOf_run hT hk]
        simp only [Result.andThen_ok]
        simp only [Option.isSome_none, Bool.false_eq_true, if_false]
        simp only [Sem.run_bind, Sem.run_pure]
        rw [bounds_run hF false hl hhi c3 (by omega)]
        rfl
      · cases h
    · cases h
  · cases h

theorem places_run : ∀ (fs : List Field) (pl : List (Nat × Nat)), placesAV T fs = some pl → ∀ w', (fs.mapM (m := Sem) fun f => do pure (f.offset, ← sizeOf f.type)).run P w' = .ok pl w'
  | [], pl, h, w' => by simp only [placesAV, Option.some.injEq] at h; subst h; rfl
  | f :: r, pl, h, w' => by
    simp only [placesAV] at h
    split at h
    · rename_i d l hd hl
      injection h with h
      subst h
      have ih := places_run r l hl w'
      simp only [List.mapM_cons, Sem.run_bind, run_size hT hd, Result.andThen_ok, ih, Sem.run_pure]
    · cases h

omit hT in
theorem fill_ok (place : Nat → Option (Nat × Nat)) : ∀ (parts : List (Nat × AV)) (vs : List (Nat × Value)) (cells : List AV) (cs : List Value) (xs : List AV),
    (∀ (i : Nat) (p : Nat × AV), parts[i]? = some p → ∃ v, vs[i]? = some (p.1, v) ∧ rel Im φ s B w p.2 v) → vs.length = parts.length → relL Im φ s B w cells cs → (∀ u ∈ cs, u.oneCell' = true) → fillAV s place cells parts = some xs →
    ∃ ds : List Value, Instr.fill place cs.toArray vs = some ds.toArray ∧ relL Im φ s B w xs ds ∧ ∀ u ∈ ds, u.oneCell' = true
  | [], vs, cells, cs, xs, hp, hl, hr, h1, h => by
    simp only [fillAV, Option.some.injEq] at h
    subst h
    have : vs = [] := List.eq_nil_of_length_eq_zero (by simpa using hl)
    subst this
    exact ⟨cs, rfl, hr, h1⟩
  | (i, x) :: rest, vs, cells, cs, xs, hp, hl, hr, h1, h => by
    simp only [fillAV] at h
    split at h
    · rename_i off size ys hpl hok
      split at h
      · rename_i hc
        obtain ⟨hc1, hc2⟩ := hc
        obtain ⟨v, hv, hrv⟩ := hp 0 _ rfl
        cases vs with
        | nil => simp at hl
        | cons q vs =>
          simp only [List.getElem?_cons_zero, Option.some.injEq] at hv
          subst hv
          obtain ⟨hrl, hro⟩ := okCells_ok hok hrv
          have hlen := relL_len _ _ hrl
          have hlc := relL_len _ _ hr
          have hfold : (v.cells.zipIdx.foldl (fun cs (c, j) => cs.setIfInBounds (off + j) c) cs.toArray) = (cs.take off ++ v.cells.toList ++ cs.drop (off + v.cells.toList.length)).toArray := by
            apply Array.ext_getElem?
            intro k
            have key : ∀ (l : List Value) (n : Nat) (A : Array Value), (∀ k, ((l.zipIdx n).foldl (fun cs (c, j) => cs.setIfInBounds (off + j) c) A)[k]? = if off + n ≤ k ∧ k < off + n + l.length ∧ k < A.size then l[k - (off + n)]? else A[k]?) := by
              intro l
              induction l with
              | nil => intro n A k; simp; omega
              | cons y l ih =>
                intro n A k
                simp only [List.zipIdx_cons, List.foldl_cons]
                rw [ih]
                simp only [Array.size_setIfInBounds, List.length_cons, Array.getElem?_setIfInBounds]
                by_cases e : off + n = k
                · subst e
                  by_cases hs : off + n < A.size
                  · rw [if_neg (by omega), if_pos rfl, if_pos hs, if_pos (by omega)]
                    simp
                  · rw [if_neg (by omega), if_pos rfl, if_neg hs, if_neg (by omega)]
                    simp at hs
                    simp [Array.getElem?_eq_none hs]
                · rw [if_neg e]
                  by_cases hs : off + n ≤ k ∧ k < off + n + (l.length + 1) ∧ k < A.size
                  · rw [if_pos (by omega), if_pos hs]
                    have : k - (off + n) = (k - (off + (n + 1))) + 1 := by omega
                    rw [this]
                    rfl
                  · rw [if_neg (by omega), if_neg hs]
            rw [← Array.foldl_toList]
            have := key v.cells.toList 0 cs.toArray k
            simp only [Array.toList_zipIdx]
            rw [this]
            simp only [List.size_toArray, Nat.add_zero, List.getElem?_toArray]
            have hcl : cs.length = cells.length := hlc
            rw [List.append_assoc, List.getElem?_append, List.length_take, Nat.min_eq_left (by omega)]
            by_cases hk : k < off
            · rw [if_neg (by omega), if_pos hk, List.getElem?_take, if_pos hk]
            · rw [if_neg hk, List.getElem?_append]
              by_cases hk2 : k - off < v.cells.toList.length
              · rw [if_pos (by omega), if_pos hk2]
              · rw [if_neg (by omega), if_neg hk2, List.getElem?_drop]
                congr 1
                omega
          have hrec := fill_ok place rest vs (cells.take off ++ ys ++ cells.drop (off + ys.length)) (cs.take off ++ v.cells.toList ++ cs.drop (off + v.cells.toList.length)) xs
            (fun i p hip => hp (i + 1) p hip) (by simpa using hl)
            (relL_append _ _ _ _ (relL_append _ _ _ _ (relL_take _ _ _ hr) hrl) (by rw [hlen]; exact relL_drop _ _ _ hr))
            (by
              intro u hu
              rcases List.mem_append.1 hu with hu | hu
              · rcases List.mem_append.1 hu with hu | hu
                · exact h1 u (List.mem_of_mem_take hu)
                · exact hro u hu
              · exact h1 u (List.mem_of_mem_drop hu)) h
          obtain ⟨ds, hds, h2, h3⟩ := hrec
          refine ⟨ds, ?_, h2, h3⟩
          unfold Instr.fill
          simp only [hpl]
          have hsz : v.cells.size = size := by rw [← hc1, ← hlen]; simp
          rw [if_neg (by rw [hsz]; simp; rw [← hc1, hlc]; omega), hfold]
          exact hds
      · cases h
    · cases h

theorem buildAV_ok {F : Fr} {a : Act} (hF : Holds Im φ s B w F a) {t : Nat} {z : AV} {parts : Array (Nat × Operand)} (h : buildAV T s t (parts.toList.map fun p => (p.1, look F p.2)) = some z) :
    ∃ u, (∀ w', (Instr.build t (parts.map fun (i, x) => (i, a.eval x))).run P w' = .ok u w') ∧ rel Im φ s B w z u := by
  unfold buildAV at h
  split at h
  · rename_i d hd
    split at h
    · rename_i fs hfs
      split at h
      · rename_i pl hpl
        split at h
        · rename_i xs hxs
          injection h with h; subst h
          have hzero : ∀ (l : List Value), (∀ u ∈ l, u.oneCell' = true) → relL Im φ s B w (l.map cst) l := by
            intro l hl
            induction l with
            | nil => simp [relL]
            | cons u l ih => simp only [List.map_cons, relL]; exact ⟨u, l, rfl, rel_cst .., ih fun x hx => hl x (List.mem_cons_of_mem _ hx)⟩
          obtain ⟨zv, hz, hzc, _, hz1⟩ := run_zero hT hd w
          have hz' : ∀ w', (zeroValue t).run P w' = .ok zv w' := by
            intro w'
            obtain ⟨_, i, z, e1, _, _, e2, e3, e4, _⟩ := hT t d hd
            have a1 : (zeroValue t).run P w = .ok z w := by simp [zeroValue, typeInfo, program, Sem.run, bind, Sem.bind, e1, e2, pure]
            rw [a1] at hz
            injection hz with hz
            subst hz
            simp [zeroValue, typeInfo, program, Sem.run, bind, Sem.bind, e1, e2, pure]
          obtain ⟨ds, hds, h2, h3⟩ := fill_ok (fun i => pl[i]?) _ (parts.toList.map fun p => (p.1, a.eval p.2)) _ d.zero xs
            (by
              intro i p hp
              rw [List.getElem?_map] at hp
              obtain ⟨q, hq, rfl⟩ := Option.map_eq_some_iff.1 hp
              refine ⟨a.eval q.2, ?_, look_ok hF q.2⟩
              rw [List.getElem?_map, hq]
              rfl) (by simp) (hzero d.zero hz1) hz1 hxs
          refine ⟨.agg ds.toArray, fun w' => ?_, by simp only [rel]; exact ⟨ds, rfl, h2, h3⟩⟩
          have hzt : zv.cells = d.zero.toArray := by rw [← hzc]
          have hpa : (parts.map fun (i, x) => (i, a.eval x)).toList = parts.toList.map fun p => (p.1, a.eval p.2) := by simp
          unfold Instr.build
          rw [Sem.run_bind, hz' w']
          simp only [Result.andThen_ok]
          rw [Sem.run_bind, run_und hT hd, hfs]
          simp only [Result.andThen_ok]
          rw [Sem.run_bind, Array.mapM_eq_mapM_toList, Sem.run_map, places_run hT _ _ hpl]
          simp only [Result.andThen_ok, hpa, hzt, List.getElem?_toArray]
          rw [hds]
          rfl
        · cases h
      · cases h
    · cases h
  · cases h

omit hT in
theorem relL_map {F : Fr} {a : Act} (hF : Holds Im φ s B w F a) : ∀ (l : List Operand), relL Im φ s B w (l.map (look F)) (l.map a.eval)
  | [] => by simp [relL]
  | x :: l => by simp only [List.map_cons, relL]; exact ⟨_, _, rfl, look_ok hF x, relL_map hF l⟩

/-- Every operation of 'evP' yields, in every world, a value that reads as it says. -/
theorem evP_ok {F : Fr} {a : Act} (hF : Holds Im φ s B w F a) {o : Oper} {x : AV} (h : evP T F s o.op = some x) : ∃ v, (∀ w', (execOp a.eval o).run P w' = .ok (.value v) w') ∧ rel Im φ s B w x v := by
  have lift : ∀ (m : Sem Value) (v : Value) (w' : World), m.run P w' = .ok v w' → (do pure (Next.value (← m)) : Sem Next).run P w' = .ok (.value v) w' := fun m v w' hm => by simp [hm]
  obtain ⟨dst, op, ty, pos, after, guard⟩ := o
  simp only at h
  cases op with
  | move x' => simp only [evP, Option.some.injEq] at h; subst h; exact ⟨_, fun _ => rfl, look_ok hF x'⟩
  | assign x' => simp only [evP, Option.some.injEq] at h; subst h; exact ⟨_, fun _ => rfl, look_ok hF x'⟩
  | pick c p q =>
    simp only [evP] at h
    split at h
    · rename_i b hb
      injection h with h
      subst h
      have hc := look_ok hF c
      rw [hb] at hc
      simp only [rel] at hc
      refine ⟨if b = true then a.eval p else a.eval q, fun w' => ?_, ?_⟩
      · simp [execOp, hc, asBool]
      · split
        · exact look_ok hF p
        · exact look_ok hF q
    · cases h
  | binOp op xt p q yt =>
    obtain ⟨v, h1, h2⟩ := binAV_ok hT h (look_ok hF p) (look_ok hF q) p q
    exact ⟨v, fun w' => lift _ _ _ (h1 w'), h2⟩
  | unOp op xt p =>
    obtain ⟨v, h1, h2⟩ := unAV_ok (P := P) h (look_ok hF p)
    exact ⟨v, fun w' => lift _ _ _ (h1 w'), h2⟩
  | convert src dst' p =>
    obtain ⟨v, h1, h2⟩ := convAV_ok hT h (look_ok hF p)
    exact ⟨v, fun w' => lift _ _ _ (h1 w'), h2⟩
  | extract p i =>
    simp only [evP] at h
    split at h
    · rename_i xs hx
      have hp := look_ok hF p
      rw [hx] at hp
      simp only [rel] at hp
      obtain ⟨cs, hcs, hr⟩ := hp
      obtain ⟨v, hv, hrv⟩ := relL_get _ _ hr _ _ h
      refine ⟨v, fun w' => lift _ _ _ ?_, hrv⟩
      simp [Instr.extract, hcs, hv]
    · cases h
  | field st p f =>
    obtain ⟨v, h1, h2⟩ := fieldAV_ok hT h (look_ok hF p)
    exact ⟨v, fun w' => lift _ _ _ (h1 w'), h2⟩
  | fieldAddr st p f =>
    obtain ⟨v, h1, h2⟩ := fieldAddrAV_ok hT h (look_ok hF p)
    exact ⟨v, fun w' => lift _ _ _ (h1 w'), h2⟩
  | indexAddr t p q =>
    obtain ⟨v, h1, h2⟩ := indexAddrAV_ok hT h (look_ok hF p) (look_ok hF q)
    exact ⟨v, fun w' => lift _ _ _ (h1 w'), h2⟩
  | index t p q =>
    obtain ⟨v, h1, h2⟩ := indexAV_ok hT h (look_ok hF p) (look_ok hF q)
    exact ⟨v, fun w' => lift _ _ _ (h1 w'), h2⟩
  | slice t p lo hi mx =>
    cases mx with
    | some _ => simp [evP] at h
    | none =>
      obtain ⟨v, h1, h2⟩ := sliceAV_ok hT hF h (look_ok hF p)
      exact ⟨v, fun w' => lift _ _ _ (h1 w'), h2⟩
  | makeFunc fn first caps =>
    cases fn with
    | func f =>
      simp only [evP] at h
      split at h
      · rename_i hfs
        injection h with h
        subst h
        have : first = #[] := Array.eq_empty_of_size_eq_zero hfs
        subst this
        obtain ⟨caps⟩ := caps
        refine ⟨.func (.func f) #[] (caps.map a.eval).toArray, fun w' => lift _ _ _ (by simp [Instr.makeFunc]), ?_⟩
        simp only [rel]
        exact ⟨_, rfl, relL_map hF _⟩
      · cases h
    | _ => simp [evP] at h
  | build t parts =>
    obtain ⟨v, h1, h2⟩ := buildAV_ok hT hF h
    exact ⟨v, fun w' => lift _ _ _ (h1 w'), h2⟩
  | call c =>
    obtain ⟨callee, ⟨args⟩, ⟨ats⟩⟩ := c
    simp only [evP] at h
    split at h
    · rename_i p t
      obtain ⟨v, h1, h2⟩ := lenAV_ok (ty := ty) hT h (look_ok hF p)
      refine ⟨v, fun w' => ?_, h2⟩
      have := h1 w'
      simp [execOp, resolve, invoke, builtin, this]
    · cases h
  | _ => simp [evP] at h
end
end Go.Proofs.YtmcfgljdpjalfaaV
