/- The abstract layer, twelfth text: rows frozen or begun with nothing done; numbers in slots; what comes back. -/
import Derived.Test.YtmcfgljdpjalfaaV11
set_option linter.unusedVariables false
set_option linter.unusedSimpArgs false
set_option linter.constructorNameAsVariable false
set_option linter.unusedSectionVars false
namespace Go.Proofs.YtmcfgljdpjalfaaV
open Go.RowKit
/-- The number in a slot. -/
def AV.num : AV → Nat
  | .int _ n => n.toNat
  | _ => 0
theorem num_int (k : IntKind) (n : Nat) : (AV.int k n).num = n := rfl
theorem wrap_nat (n : Nat) (h : n ≤ 9223372036854775807) : IntKind.i64.wrap (n : Int) = n := wrap_in _ (by omega) (by omega)
theorem wrap_suc (n : Nat) (h : n < 9223372036854775807) : IntKind.i64.wrap ((n : Int) + 1) = ((n + 1 : Nat) : Int) := wrap_in _ (by omega) (by omega)
theorem wrap_pre (n : Nat) (h : n ≤ 9223372036854775807) (h0 : 0 < n) : IntKind.i64.wrap ((n : Int) - 1) = ((n - 1 : Nat) : Int) := by rw [wrap_in _ (by omega) (by omega)]; omega
theorem ba_beq (a b : ByteArray) : (a == b) = decide (a = b) := by
  rw [Bool.eq_iff_iff]
  cases a with | mk x =>
  cases b with | mk y =>
  show (x == y) = true ↔ _
  simp
/-! ### With nothing done -/
def Ret.fzn (n : Nat) (p : RowC) (t : Tok) : Ret := ⟨some, fun m off len => if m = n then .sl p.1 p.2.1 t ((p.2.2.drop off).take len) else .so m off len, fun m i off => if m = n then .undef else .elo m i off, fun b off => .ptr b off, fun m => if m = n then .undef else .mo m⟩
def St.fzn (s : St) (n : Nat) (p : RowC) (t : Tok) : St := ⟨s.box.map fun q => (q.1, AV.retL (Ret.fzn n p t) q.2), (s.row.map (Option.map fun r => (r.1, r.2.1, AV.retL (Ret.fzn n p t) r.2.2))).set n none⟩
theorem at_fzn (s : St) (n : Nat) (p : RowC) (t : Tok) (m : Nat) : (s.fzn n p t).at m = if m = n then none else (s.at m).map fun r => (r.1, r.2.1, AV.retL (Ret.fzn n p t) r.2.2) := by
  unfold St.at St.fzn
  simp only [List.getElem?_set, List.length_map, List.getElem?_map]
  by_cases h : n = m
  · subst h
    simp only [if_pos]
    split <;> rfl
  · rw [if_neg h, if_neg (Ne.symm h)]
    cases s.row[m]? with
    | none => rfl
    | some x => cases x <;> rfl
theorem live_fzn {s : St} {n : Nat} {p : RowC} {t : Tok} {m : Nat} : (s.fzn n p t).live m = true ↔ m ≠ n ∧ s.live m = true := by
  unfold St.live
  rw [at_fzn]
  by_cases h : m = n
  · simp [h]
  · simp [h]
theorem fzn_box (s : St) (n : Nat) (p : RowC) (t : Tok) : (s.fzn n p t).box = s.box.map fun q => (q.1, AV.retL (Ret.fzn n p t) q.2) := rfl
theorem fzn_len (s : St) (n : Nat) (p : RowC) (t : Tok) : (s.fzn n p t).row.length = s.row.length := by simp [St.fzn]
/-- Row n is told as a fixed slice, wherever it stands. -/
theorem Weak.freeze {F : Fr} {s : St} {n : Nat} {p : RowC} (ha : s.at n = some p) (t : Tok) (ht : t = .ro ∨ t = .fz) : Weak F s (fun i => (F i).ret (Ret.fzn n p t)) (s.fzn n p t) := by
  intro N Im φ0 s0 w0 B φ a w hS
  have hI := hS.inv
  have hmut : ∀ g, Mut φ (s.fzn n p t) g → Mut φ s g := by
    rintro g (⟨b, hb, he⟩ | ⟨m, hm, he⟩)
    · exact .inl ⟨b, by simpa [St.fzn] using hb, he⟩
    · exact .inr ⟨m, (live_fzn.1 hm).2, he⟩
  have hgone : ∀ g, φ.rw n = some g → ¬ Mut φ (s.fzn n p t) g := by
    rintro g hg (⟨b, hb, he⟩ | ⟨m, hm, he⟩)
    · exact hI.bxrw b n (by simpa [St.fzn] using hb) (at_live ha) (by rw [hg, he])
    · obtain ⟨h1, h2⟩ := live_fzn.1 hm
      exact h1 (hI.rwinj m n g h2 (at_live ha) he hg)
  have hret : RetOk (Ret.fzn n p t) Im φ s B Im φ (s.fzn n p t) B w := by
    refine ⟨fun t' t'' v m cs ht' hm => ?_, fun m off len v hr => ?_, fun m i off v hr => ?_, fun b off v hr => ?_, fun m v hr => ?_⟩
    · injection ht' with ht'
      subst ht'
      cases t' with
      | nil => exact hm
      | ro =>
        obtain ⟨A, c, rfl, hc, hm⟩ := hm
        refine ⟨A, c, rfl, hc, fun hn => ?_⟩
        obtain ⟨a', k1, k2, k3, k4, k5⟩ := hm hn
        exact ⟨a', k1, k2, fun h => k3 (hmut _ h), k4, k5⟩
      | fz =>
        obtain ⟨A, c, rfl, hc, hm⟩ := hm
        refine ⟨A, c, rfl, hc, fun hn => ?_⟩
        obtain ⟨a', k1, k2, k3, k4, k5⟩ := hm hn
        exact ⟨a', k1, k2, fun h => k3 (hmut _ h), k4, k5⟩
    · simp only [Ret.fzn]
      split
      · rename_i hmn
        subst hmn
        obtain ⟨e, sz, xs⟩ := p
        obtain ⟨cs, A, c, h1, h2, rfl, h4, h5⟩ := so_mem hI ha hr
        have hF : relF Im φ (s.fzn m (e, sz, xs) t) B w sz ((xs.drop off).take len) cs := by
          -- what the elements say does not depend on what is frozen
          exact relF_step (B := B) ⟨by simp [St.fzn], by simp [St.fzn], fun _ _ => rfl, fun k e' sz' xs' _ hl => by
            rw [at_fzn] at hl
            split at hl
            · cases hl
            · obtain ⟨q, hq, he⟩ := Option.map_eq_some_iff.1 hl
              obtain ⟨q1, q2, q3⟩ := q
              simp only [Prod.mk.injEq] at he
              obtain ⟨rfl, rfl, rfl⟩ := he
              exact ⟨⟨q3, hq, fun _ => retL_length _ _⟩, rfl, fun _ h => h⟩, fun g hg hm => ⟨rfl, fun h => hm (hmut g h)⟩, Below.refl _ _, Nat.le_refl _⟩ _ _ _ h1
        simp only [rel]
        refine ⟨cs, hF, ?_⟩
        rw [h2]
        rcases ht with rfl | rfl
        · refine ⟨A, c, rfl, h4, fun h0 => ?_⟩
          obtain ⟨a', k1, k2, k3, k4⟩ := h5 h0
          have := (hI.bnd _ (.inr ⟨m, at_live ha, k2⟩)).1
          exact ⟨a', k1, k3, hgone _ k2, fun h => by omega, k4⟩
        · refine ⟨A, c, rfl, h4, fun h0 => ?_⟩
          obtain ⟨a', k1, k2, k3, k4⟩ := h5 h0
          exact ⟨a', k1, k3, hgone _ k2, (hI.bnd _ (.inr ⟨m, at_live ha, k2⟩)).1, k4⟩
      · rename_i hmn
        simp only [rel] at hr ⊢
        refine ⟨by simpa [St.fzn] using hr.1, fun e sz xs hl => ?_⟩
        rw [at_fzn, if_neg hmn] at hl
        obtain ⟨q, hq, he⟩ := Option.map_eq_some_iff.1 hl
        obtain ⟨q1, q2, q3⟩ := q
        simp only [Prod.mk.injEq] at he
        obtain ⟨rfl, rfl, rfl⟩ := he
        rw [retL_length]
        exact hr.2 _ _ _ hq
    · simp only [Ret.fzn]
      split
      · simp [rel]
      · rename_i hmn
        simp only [rel] at hr ⊢
        refine ⟨by simpa [St.fzn] using hr.1, fun e sz xs hl => ?_⟩
        rw [at_fzn, if_neg hmn] at hl
        obtain ⟨q, hq, he⟩ := Option.map_eq_some_iff.1 hl
        obtain ⟨q1, q2, q3⟩ := q
        simp only [Prod.mk.injEq] at he
        obtain ⟨rfl, rfl, rfl⟩ := he
        rw [retL_length]
        exact hr.2 _ _ _ hq
    · simp only [Ret.fzn, rel] at hr ⊢
      exact ⟨by simpa [St.fzn] using hr.1, hr.2⟩
    · simp only [Ret.fzn]
      split
      · simp [rel]
      · rename_i hmn
        simp only [rel] at hr ⊢
        refine ⟨by simpa [St.fzn] using hr.1, fun e sz xs hl => ?_⟩
        rw [at_fzn, if_neg hmn] at hl
        obtain ⟨q, hq, he⟩ := Option.map_eq_some_iff.1 hl
        obtain ⟨q1, q2, q3⟩ := q
        simp only [Prod.mk.injEq] at he
        obtain ⟨rfl, rfl, rfl⟩ := he
        exact hr.2 _ _ _ hq
  have hstep : Step B φ s w φ (s.fzn n p t) w := by
    refine ⟨by simp [St.fzn], by simp [St.fzn], fun _ _ => rfl, fun k e' sz' xs' _ hl => ?_, fun g hg hm => ⟨rfl, fun h => hm (hmut g h)⟩, Below.refl _ _, Nat.le_refl _⟩
    rw [at_fzn] at hl
    split at hl
    · cases hl
    · obtain ⟨q, hq, he⟩ := Option.map_eq_some_iff.1 hl
      obtain ⟨q1, q2, q3⟩ := q
      simp only [Prod.mk.injEq] at he
      obtain ⟨rfl, rfl, rfl⟩ := he
      exact ⟨⟨q3, hq, fun _ => retL_length _ _⟩, rfl, fun _ h => h⟩
  have hblen : (s.fzn n p t).box.length = s.box.length := by simp [St.fzn]
  refine ⟨φ, ⟨fun i => rel_ret hret _ _ (hS.holds i), hS.size, hS.defers.step hstep, ⟨hI.hB, fun g hg => hI.bnd g (hmut g hg), fun b b' hb hb' => hI.bxinj b b' (by omega) (by omega),
    fun m k g hm hk => hI.rwinj m k g (live_fzn.1 hm).2 (live_fzn.1 hk).2, fun b m hb hm => hI.bxrw b m (by omega) (live_fzn.1 hm).2, fun b ty cs hb => ?_, fun m e sz xs hl => ?_⟩, hS.step.trans hstep⟩⟩
  · simp only [St.fzn, List.getElem?_map] at hb
    obtain ⟨q, hq, he⟩ := Option.map_eq_some_iff.1 hb
    obtain ⟨q1, q2⟩ := q
    simp only [Prod.mk.injEq] at he
    obtain ⟨rfl, rfl⟩ := he
    obtain ⟨vs, k1, k2, k3⟩ := hI.cells b _ _ hq
    exact ⟨vs, k1, relL_ret hret _ _ k2, k3⟩
  · rw [at_fzn] at hl
    split at hl
    · cases hl
    · obtain ⟨q, hq, he⟩ := Option.map_eq_some_iff.1 hl
      obtain ⟨q1, q2, q3⟩ := q
      simp only [Prod.mk.injEq] at he
      obtain ⟨rfl, rfl, rfl⟩ := he
      rcases hI.rows m _ _ _ hq with ⟨k0, k1 | ⟨g, cap, cur, cs, k1, k2, k3, k4, k5, k6, k7⟩⟩ | ⟨k0, g, ms, ck, k1, k2, kb, k3⟩
      · exact .inl ⟨k0, .inl ⟨k1.1, by rw [k1.2]; rfl⟩⟩
      rotate_left
      · exact .inr ⟨k0, g, ms, ck, k1, k2, kb, relL_ret hret _ _ k3⟩
      · exact .inl ⟨k0, .inr ⟨g, cap, cur, cs, k1, k2, k3, k4, by rw [retL_length]; exact k5, relF_ret hret _ _ _ k6, by rw [retL_length]; exact k7⟩⟩
/-- A slot with nil is told as an own row without elements. -/
theorem Weak.adopt {F : Fr} {s : St} {i e0 sz0 : Nat} {xs : List AV} (h : F i = .sl e0 sz0 .nil xs) (e sz : Nat) (hsz : 0 < sz) : Weak F s (upd F i (.so s.row.length 0 0)) (s.new none (e, sz, [])) := by
  intro N Im φ0 s0 w0 B φ a w hS
  obtain ⟨h1, h2⟩ := hS.inv.row none none (.inl rfl) (w1 := w) ⟨rfl, rfl, rfl, Nat.le_refl _, fun _ _ _ => rfl⟩ (Nat.le_refl _) none (fun g hg => by cases hg) (e := e) (sz := sz) (xs := []) (.inl ⟨hsz, .inl ⟨rfl, rfl⟩⟩)
  refine ⟨_, ⟨fun j => ?_, hS.size, hS.defers.step h1, h2, hS.step.trans h1⟩⟩
  by_cases hj : j = i
  · subst hj
    rw [upd_eq]
    have := hS.holds j
    rw [h] at this
    simp only [rel] at this
    obtain ⟨cs, _, h3, _⟩ := this
    rw [h3]
    exact so_new h2 rfl ⟨hsz, .inl ⟨by simp, rfl, rfl, rfl⟩⟩
  · simp only [upd, if_neg hj]
    exact rel_step h1 _ _ (hS.holds j)
theorem relL_setAt {Im : Nat → Prop} {φ : Emb} {s : St} {B : Nat} {w : World} {x : AV} {v : Value} : ∀ (j : Nat) (xs : List AV) (vs : List Value), relL Im φ s B w xs vs → vs[j]? = some v → rel Im φ s B w x v → relL Im φ s B w (xs.set j x) vs
  | _, [], vs, h, _, _ => by simpa using h
  | 0, y :: xs, vs, h, hv, hx => by
    simp only [relL] at h
    obtain ⟨u, r, rfl, _, h2⟩ := h
    simp at hv
    subst hv
    simp only [List.set_cons_zero, relL]
    exact ⟨_, _, rfl, hx, h2⟩
  | j + 1, y :: xs, vs, h, hv, hx => by
    simp only [relL] at h
    obtain ⟨u, r, rfl, h1, h2⟩ := h
    simp only [List.set_cons_succ, relL]
    exact ⟨_, _, rfl, h1, relL_setAt j xs r h2 (by simpa using hv) hx⟩
/-- A field of a variable with nil is told as an own row without elements. -/
theorem Weak.adoptBox {F : Fr} {s : St} {b ty : Nat} {cs : List AV} {j e0 sz0 : Nat} {xs : List AV} (hb : s.box[b]? = some (ty, cs)) (hj : cs[j]? = some (.sl e0 sz0 .nil xs)) (e sz : Nat) (hsz : 0 < sz) :
    Weak F s F ⟨s.box.set b (ty, cs.set j (.so s.row.length 0 0)), s.row ++ [some (e, sz, [])]⟩ := by
  intro N Im φ0 s0 w0 B φ a w hS
  obtain ⟨h1, h2⟩ := hS.inv.row none none (.inl rfl) (w1 := w) ⟨rfl, rfl, rfl, Nat.le_refl _, fun _ _ _ => rfl⟩ (Nat.le_refl _) none (fun g hg => by cases hg) (e := e) (sz := sz) (xs := []) (.inl ⟨hsz, .inl ⟨rfl, rfl⟩⟩)
  have hlt : b < s.box.length := (List.getElem?_eq_some_iff.1 hb).1
  have hlen : (s.box.set b (ty, cs.set j (.so s.row.length 0 0))).length = s.box.length := by simp
  have hstep : Step B { φ with rw := fun m => if m = s.row.length then none else φ.rw m } (s.new none (e, sz, [])) w { φ with rw := fun m => if m = s.row.length then none else φ.rw m } ⟨s.box.set b (ty, cs.set j (.so s.row.length 0 0)), s.row ++ [some (e, sz, [])]⟩ w := by
    refine ⟨by simp [St.new, kill], by simp [St.new], fun _ _ => rfl, fun n e' sz' xs' _ hl => ⟨⟨xs', hl, fun _ => rfl⟩, rfl, fun _ h => h⟩, fun g _ hm => ⟨rfl, fun h => hm ?_⟩, Below.refl _ _, Nat.le_refl _⟩
    rcases h with ⟨c, hc, he⟩ | ⟨n, hn, he⟩
    · exact .inl ⟨c, by simpa [St.new] using hc, he⟩
    · exact .inr ⟨n, hn, he⟩
  refine ⟨_, ⟨fun i => rel_step (h1.trans hstep) _ _ (hS.holds i), hS.size, hS.defers.step (h1.trans hstep), ⟨h2.hB, fun g hg => h2.bnd g ?_, fun c c' hc hc' => h2.bxinj c c' (by simpa [St.new] using hc) (by simpa [St.new] using hc'), h2.rwinj, fun c n hc => h2.bxrw c n (by simpa [St.new] using hc), fun c ty' cs' hc => ?_, fun n e' sz' xs' hl => RowOk.step hstep (h2.rows n e' sz' xs' hl)⟩, (hS.step.trans h1).trans hstep⟩⟩
  · rcases hg with ⟨c, hc, he⟩ | ⟨n, hn, he⟩
    · exact .inl ⟨c, by simpa [St.new] using hc, he⟩
    · exact .inr ⟨n, hn, he⟩
  · by_cases hcb : b = c
    · subst hcb
      simp only [List.getElem?_set, if_pos, hlt, Option.some.injEq, Prod.mk.injEq] at hc
      obtain ⟨rfl, rfl⟩ := hc
      obtain ⟨vs, k1, k2, k3⟩ := h2.cells b ty cs hb
      obtain ⟨v, hv, hr⟩ := relL_get _ _ k2 _ _ hj
      refine ⟨vs, k1, relL_setAt j _ _ (relL_step hstep _ _ k2) hv ?_, k3⟩
      simp only [rel] at hr
      obtain ⟨_, _, rfl, _⟩ := hr
      exact rel_step hstep _ _ (so_new h2 rfl ⟨hsz, .inl ⟨by simp, rfl, rfl, rfl⟩⟩)
    · rw [List.getElem?_set_ne hcb] at hc
      obtain ⟨vs, k1, k2, k3⟩ := h2.cells c ty' cs' hc
      exact ⟨vs, k1, relL_step hstep _ _ k2, k3⟩
/-- A variable's cells told with less. -/
theorem Weak.leBox {F : Fr} {s : St} {b ty : Nat} {cs cs' : List AV} (hb : s.box[b]? = some (ty, cs)) (h : AV.leL cs cs') : Weak F s F ⟨s.box.set b (ty, cs'), s.row⟩ := by
  intro N Im φ0 s0 w0 B φ a w hS
  have hI := hS.inv
  have hlt : b < s.box.length := (List.getElem?_eq_some_iff.1 hb).1
  have hmut : ∀ g, Mut φ ⟨s.box.set b (ty, cs'), s.row⟩ g → Mut φ s g := by
    rintro g (⟨c, hc, he⟩ | ⟨n, hn, he⟩)
    · exact .inl ⟨c, by simpa using hc, he⟩
    · exact .inr ⟨n, hn, he⟩
  have hstep : Step B φ s w φ ⟨s.box.set b (ty, cs'), s.row⟩ w :=
    ⟨Nat.le_refl _, by simp, fun _ _ => rfl, fun n e' sz' xs' _ hl => ⟨⟨xs', hl, fun _ => rfl⟩, rfl, fun _ h => h⟩, fun g _ hm => ⟨rfl, fun h => hm (hmut g h)⟩, Below.refl _ _, Nat.le_refl _⟩
  refine ⟨φ, ⟨fun i => rel_step hstep _ _ (hS.holds i), hS.size, hS.defers.step hstep, ⟨hI.hB, fun g hg => hI.bnd g (hmut g hg), fun c c' hc hc' => hI.bxinj c c' (by simpa using hc) (by simpa using hc'), hI.rwinj, fun c n hc => hI.bxrw c n (by simpa using hc), fun c ty' cs2 hc => ?_, fun n e' sz' xs' hl => RowOk.step hstep (hI.rows n e' sz' xs' hl)⟩, hS.step.trans hstep⟩⟩
  by_cases hcb : b = c
  · subst hcb
    simp only [List.getElem?_set, if_pos, hlt, Option.some.injEq, Prod.mk.injEq] at hc
    obtain ⟨rfl, rfl⟩ := hc
    obtain ⟨vs, k1, k2, k3⟩ := hI.cells b ty cs hb
    exact ⟨vs, k1, leL_ok _ _ _ h (relL_step hstep _ _ k2), k3⟩
  · rw [List.getElem?_set_ne hcb] at hc
    obtain ⟨vs, k1, k2, k3⟩ := hI.cells c ty' cs2 hc
    exact ⟨vs, k1, relL_step hstep _ _ k2, k3⟩
/-- A slot told with less. -/
theorem Weak.put {F : Fr} {s : St} {i : Nat} (y : AV) (h : (F i).le y) : Weak F s (upd F i y) s := by
  refine Weak.le fun j => ?_
  by_cases hj : j = i
  · subst hj
    rw [upd_eq]
    exact h
  · simp [upd, hj, le_refl]

theorem retL_append (ρ : Ret) (xs ys : List AV) : AV.retL ρ (xs ++ ys) = AV.retL ρ xs ++ AV.retL ρ ys := by simp [retL_map]
theorem retL_take (ρ : Ret) (k : Nat) (xs : List AV) : AV.retL ρ (xs.take k) = (AV.retL ρ xs).take k := by simp [retL_map]
theorem retL_drop (ρ : Ret) (k : Nat) (xs : List AV) : AV.retL ρ (xs.drop k) = (AV.retL ρ xs).drop k := by simp [retL_map]
theorem retL_set (ρ : Ret) (k : Nat) (xs : List AV) (y : AV) : AV.retL ρ (xs.set k y) = (AV.retL ρ xs).set k (y.ret ρ) := by simp [retL_map]
theorem retL_replicate (ρ : Ret) (k : Nat) (y : AV) : AV.retL ρ (List.replicate k y) = List.replicate k (y.ret ρ) := by simp [retL_map]
/-- A part of a list, the whole where it is the whole. -/
def cutL (off len : Nat) (xs : List AV) : List AV := if (xs.drop off).length ≤ len then xs.drop off else (xs.drop off).take len
theorem cutL_eq (off len : Nat) (xs : List AV) : (xs.drop off).take len = cutL off len xs := by
  unfold cutL
  split
  · rename_i h
    exact List.take_of_length_le h
  · rfl
theorem listAV_sl (s : St) (e sz : Nat) (t : Tok) (xs : List AV) : listAV s (.sl e sz t xs) = some (sz, xs) := rfl
theorem listAV_so (s : St) (n off len : Nat) : listAV s (.so n off len) = match s.at n with | some p => some (p.2.1, cutL off len p.2.2) | none => none := by
  cases h : s.at n <;> simp [listAV, h, ← cutL_eq]
theorem appRow_so (s : St) (e sz n len : Nat) : appRow s e sz (.so n 0 len) = match s.at n with | some p => if p.1 = e ∧ p.2.1 = sz then some (some n, cutL 0 len p.2.2) else none | none => none := by
  cases h : s.at n <;> simp [appRow, h, ← cutL_eq]
theorem appRow_nil (s : St) (e sz e' sz' : Nat) (xs : List AV) : appRow s e sz (.sl e' sz' .nil xs) = some (none, []) := rfl

/-! ### What comes back -/
theorem conv0 (s : St) (x r : AV) : Conv s x [] r = (x.ret (Ret.conv s [])).le r := by
  refine propext ⟨fun ⟨ρ, h1, _, _, h4⟩ => ?_, fun h => ⟨[], rfl, List.nodup_nil, fun k n h => by simp at h, h⟩⟩
  have : ρ = [] := List.eq_nil_of_length_eq_zero h1
  subst this
  exact h4
/-- One row given over. -/
theorem conv1 {s : St} {n e sz len : Nat} {xs ys : List AV} (h : s.at n = some (e, sz, xs)) (hy : AV.leL (AV.retL (Ret.conv s [n]) xs) ys) : Conv s (.so n 0 len) [(e, sz, ys)] (.so 0 0 len) := by
  refine ⟨[n], rfl, by simp, fun k m hk => ?_, ?_⟩
  · cases k with
    | zero => simp at hk; subst hk; exact ⟨e, sz, xs, ys, h, rfl, hy⟩
    | succ k => simp at hk
  · simp [AV.ret, Ret.conv, Ret.deep, List.idxOf?, List.findIdx?, List.findIdx?.go, le_refl]
theorem conv_tk (s : St) (ρ : List Nat) (t : Tok) : (Ret.conv s ρ).tk t = some t := rfl
theorem arg_tk (s : St) (a : Bool) (t : Tok) : (Ret.arg s a).tk t = tkArg t := rfl
theorem res_tk (a : Bool) (k : Nat) (t : Tok) : (Ret.res a k).tk t = tkRes a t := rfl
theorem fzn_tk (n : Nat) (p : RowC) (t t' : Tok) : (Ret.fzn n p t).tk t' = some t' := rfl
theorem fzn_so (n : Nat) (p : RowC) (t : Tok) (m off len : Nat) : (Ret.fzn n p t).so m off len = if m = n then .sl p.1 p.2.1 t (cutL off len p.2.2) else .so m off len := by
  simp only [← cutL_eq]
  rfl
theorem fzn_mo (n : Nat) (p : RowC) (t : Tok) (m : Nat) : (Ret.fzn n p t).mo m = if m = n then .undef else .mo m := rfl
theorem res_mo (a : Bool) (k n : Nat) : (Ret.res a k).mo n = .mo (n + k) := rfl
theorem arg_mo (s : St) (a : Bool) (n : Nat) : (Ret.arg s a).mo n = .undef := rfl
theorem conv_mo (s : St) (n : Nat) : (Ret.conv s []).mo n = .undef := rfl
theorem fzn_elo (n : Nat) (p : RowC) (t : Tok) (m off len : Nat) : (Ret.fzn n p t).elo m off len = if m = n then .undef else .elo m off len := rfl
theorem fzn_ptr (n : Nat) (p : RowC) (t : Tok) (b off : Nat) : (Ret.fzn n p t).ptr b off = .ptr b off := rfl
theorem res_so (a : Bool) (k n off len : Nat) : (Ret.res a k).so n off len = .so (n + k) off len := rfl
theorem idx_nil (n : Nat) : ([] : List Nat).idxOf? n = none := rfl
theorem deep_so (tk : Tok → Option Tok) (keep : Nat → Option Nat) (s : St) (t0 : Option Tok) (f n off len : Nat) : (Ret.deep tk keep s t0 (f + 1)).so n off len = match keep n with
    | some k => .so k off len
    | none => match s.at n with
      | some p => match t0 with
        | some t => .sl p.1 p.2.1 t (AV.retL (Ret.deep tk keep s t0 f) ((p.2.2.drop off).take len))
        | none => if len = 0 then .sl p.1 p.2.1 .ro [] else .undef
      | none => .undef := rfl
theorem conv_so (s : St) (n off len : Nat) : (Ret.conv s []).so n off len = match s.at n with | some p => .sl p.1 p.2.1 .fz (AV.retL (Ret.deep some (fun n => ([] : List Nat).idxOf? n) s (some .fz) 5) (cutL off len p.2.2)) | none => .undef := by
  simp only [← cutL_eq]
  show (Ret.deep _ _ _ _ (5 + 1)).so n off len = _
  rw [deep_so] <;> (try simp only [idx_nil]) <;> (try (cases s.at n <;> rfl))
theorem arg_so (s : St) (n off len : Nat) : (Ret.arg s false).so n off len = match s.at n with | some p => .sl p.1 p.2.1 .ro (AV.retL (Ret.deep tkArg (fun _ => none) s (some .ro) 5) (cutL off len p.2.2)) | none => .undef := by
  simp only [← cutL_eq]
  show (Ret.deep _ _ _ _ (5 + 1)).so n off len = _
  rw [deep_so] <;> (try (cases s.at n <;> rfl))
theorem deepc_so (s : St) (f n off len : Nat) : (Ret.deep some (fun n => ([] : List Nat).idxOf? n) s (some .fz) (f + 1)).so n off len = match s.at n with | some p => .sl p.1 p.2.1 .fz (AV.retL (Ret.deep some (fun n => ([] : List Nat).idxOf? n) s (some .fz) f) (cutL off len p.2.2)) | none => .undef := by
  simp only [← cutL_eq]
  show (Ret.deep _ _ _ _ (f + 1)).so n off len = _
  rw [deep_so] <;> (try simp only [idx_nil]) <;> (try (cases s.at n <;> rfl))
theorem deepa_so (s : St) (f n off len : Nat) : (Ret.deep tkArg (fun _ => none) s (some .ro) (f + 1)).so n off len = match s.at n with | some p => .sl p.1 p.2.1 .ro (AV.retL (Ret.deep tkArg (fun _ => none) s (some .ro) f) (cutL off len p.2.2)) | none => .undef := by
  simp only [← cutL_eq]
  show (Ret.deep _ _ _ _ (f + 1)).so n off len = _
  rw [deep_so] <;> (try (cases s.at n <;> rfl))
theorem at_nil (b : List (Nat × List AV)) (n : Nat) : (St.mk b []).at n = none := by simp [St.at]
theorem live_at' (s : St) (n : Nat) : s.live n = (s.at n).isSome := rfl
theorem deep_tk (tk : Tok → Option Tok) (keep : Nat → Option Nat) (s : St) (t0 : Option Tok) (f : Nat) : (Ret.deep tk keep s t0 f).tk = tk := by cases f <;> rfl
theorem tkArg_ro : tkArg .ro = some .ro := rfl
theorem tkArg_fz : tkArg .fz = some .ro := rfl
theorem tkArg_nil : tkArg .nil = some .nil := rfl
theorem tkRes_ro : tkRes true .ro = some .ro := rfl
theorem tkRes_nil (a : Bool) : tkRes a .nil = some .nil := rfl
theorem tkRes_fz (a : Bool) : tkRes a .fz = some .fz := rfl
theorem addRows_nil (s : St) (a : Bool) : addRows s a [] = s := by simp [addRows]
theorem addRows_len (s : St) (a : Bool) (l : List RowC) : (addRows s a l).row.length = s.row.length + l.length := by simp [addRows]
theorem new_len (s : St) (K : Option Nat) (r : RowC) : (s.new K r).row.length = s.row.length + 1 := by simp [St.new, kill_len]
theorem new_box (s : St) (K : Option Nat) (r : RowC) : (s.new K r).box = s.box := rfl
theorem put_len (s : St) (n : Nat) (r : RowC) : (s.put n r).row.length = s.row.length := by simp [St.put]
theorem put_box (s : St) (n : Nat) (r : RowC) : (s.put n r).box = s.box := rfl
theorem at_last (s : St) (K : Option Nat) (r : RowC) : (s.new K r).at s.row.length = some r := by rw [at_new, if_pos rfl]
theorem live_some {s : St} {n : Nat} {p : RowC} (h : s.at n = some p) : s.live n = true := by simp [St.live, h]
theorem at_put_self {s : St} {n : Nat} {p : RowC} (h : s.at n = some p) (r : RowC) : (s.put n r).at n = some r := by
  obtain ⟨e, sz, xs⟩ := p
  rw [at_put (at_lt h), if_pos rfl]
theorem at_box (s : St) (b : List (Nat × List AV)) (n : Nat) : (St.mk b s.row).at n = s.at n := rfl
theorem at_new_old {s : St} {m : Nat} {p : RowC} (h : s.at m = some p) (K : Option Nat) (hK : K ≠ some m) (r : RowC) : (s.new K r).at m = some p := by
  obtain ⟨e, sz, xs⟩ := p
  rw [at_new, if_neg (Nat.ne_of_lt (at_lt h)), if_neg hK, h]
theorem cast_beq (a b : Nat) : ((a : Int) == (b : Int)) = decide (a = b) := by
  rw [Bool.eq_iff_iff, beq_iff_eq, decide_eq_true_eq]
  omega
section
variable (T : Tab) (s : St) (op : BinOp) (xt : Nat)
theorem binAV_int (k k' : IntKind) (a b : Int) : binAV T op xt (.int k a) (.int k' b) = if isShift op then shiftInt op k a b else if k = k' then binInt op k a b else none := rfl
theorem binAV_str (a b : ByteArray) : binAV T op xt (.str a) (.str b) = binStr op a b := rfl
theorem binAV_bool (a b : Bool) : binAV T op xt (.bool a) (.bool b) = match kindOf T xt with | some .bool => eqOp op (a == b) | _ => none := rfl
theorem binAV_fn (f : Nat) (c : List AV) : binAV T op xt (.fn f c) .nilfn = match kindOf T xt with | some (.func _ _ _) => eqOp op false | _ => none := rfl
theorem binAV_nilfn : binAV T op xt .nilfn .nilfn = match kindOf T xt with | some (.func _ _ _) => eqOp op true | _ => none := rfl
theorem binAV_sl (e sz e' sz' : Nat) (t : Tok) (xs : List AV) : binAV T op xt (.sl e sz t xs) (.sl e' sz' .nil []) = match kindOf T xt with
    | some (.slice _) => match t, xs with
      | .nil, _ => eqOp op true
      | _, [] => eqUb op
      | _, _ => eqOp op false
    | _ => none := rfl
theorem binAV_agg (xs ys : List AV) : binAV T op xt (.agg xs) (.agg ys) = match eqTy T 10 xt (.agg xs) (.agg ys) with | some r => eqOp op r | none => none := rfl
theorem okCells_agg (xs : List AV) : okCells s (.agg xs) = some xs := rfl
theorem okCells_sl (e sz : Nat) (t : Tok) (xs : List AV) : okCells s (.sl e sz t xs) = some [.sl e sz t xs] := rfl
theorem okCells_so (n off len : Nat) (h : s.live n = true) : okCells s (.so n off len) = some [.so n off len] := by simp [okCells, h]
theorem okCells_ub : okCells s .ub = some [.ub] := rfl
theorem okCells_int (k : IntKind) (n : Int) : okCells s (.int k n) = some [.int k n] := rfl
theorem okCells_bool (b : Bool) : okCells s (.bool b) = some [.bool b] := rfl
theorem okCells_str (b : ByteArray) : okCells s (.str b) = some [.str b] := rfl
theorem okCells_nilp : okCells s .nilp = some [.nilp] := rfl
theorem okCells_nilfn : okCells s .nilfn = some [.nilfn] := rfl
theorem okCells_ptr (b o : Nat) : okCells s (.ptr b o) = some [.ptr b o] := rfl
theorem okCells_fn (f : Nat) (c : List AV) : okCells s (.fn f c) = some [.fn f c] := rfl
theorem fnOf_fn (f : Nat) (c : List AV) : fnOf (.fn f c) = some (f, c) := rfl
end
/-- A function value that may be nil. -/
def fnO : Option (Nat × List AV) → AV
  | none => .nilfn
  | some p => .fn p.1 p.2
theorem fnO_neq {T : Tab} {t : Nat} (o : Option (Nat × List AV)) {a b : Array Nat} {v : Bool} (h : kindOf T t = some (.func a b v)) : binAV T .neq t (fnO o) .nilfn = some (.bool o.isSome) := by
  cases o <;> simp [binAV, fnO, h, eqOp]
theorem okCells_fnO (s : St) (o : Option (Nat × List AV)) : okCells s (fnO o) = some [fnO o] := by cases o <;> rfl
theorem fnOf_fnO (p : Nat × List AV) : fnOf (fnO (some p)) = some p := rfl
/-- The boxes are as they were, but for q. -/
def Keep (q : Nat) (s s' : St) : Prop := s.box.length ≤ s'.box.length ∧ ∀ p, p < s.box.length → p ≠ q → s'.box[p]? = s.box[p]?
theorem Keep.refl (q : Nat) (s : St) : Keep q s s := ⟨Nat.le_refl _, fun _ _ _ => rfl⟩
theorem Keep.trans {q : Nat} {s s1 s2 : St} (h : Keep q s s1) (k : Keep q s1 s2) : Keep q s s2 := ⟨Nat.le_trans h.1 k.1, fun p hp hq => (k.2 p (Nat.lt_of_lt_of_le hp h.1) hq).trans (h.2 p hp hq)⟩
theorem Keep.grow (q : Nat) (s : St) (y : Nat × List AV) (tk : List (Option RowC)) : Keep q s ⟨s.box ++ [y], tk⟩ := ⟨by simp, fun p hp _ => by simp [List.getElem?_append_left hp]⟩
theorem Keep.set {q : Nat} {s : St} {ys : List (Nat × List AV)} {z : Nat × List AV} {tk : List (Option RowC)} : Keep q s ⟨(s.box ++ ys).set q z, tk⟩ := by
  refine ⟨by simp, fun p hp hq => ?_⟩
  rw [List.getElem?_set_ne (Ne.symm hq), List.getElem?_append_left hp]
/-- Append to an own row's slice. -/
theorem append_so {T : Tab} {s : St} {t e n len sz' : Nat} {d : TD} {xs ys : List AV} {y : AV} (he : elemOf? T t = some (e, d)) (ha : s.at n = some (e, d.size, xs)) (hlen : len = xs.length) (hy : listAV s y = some (sz', ys)) (hsz : sz' = d.size) (h3 : 0 < d.size)
    (h4 : (xs.length + ys.length) * d.bytes ≤ 140737488355328) (h5 : xs.length + ys.length ≤ 140737488355328) :
    appendAV T s t (.so n 0 len) y = some (.so s.row.length 0 (xs.length + ys.length), s.new (some n) (e, d.size, xs ++ ys)) := by
  subst hlen hsz
  unfold appendAV
  rw [he, hy]
  simp [appRow, ha, h3, h4, h5]
end Go.Proofs.YtmcfgljdpjalfaaV
