/- The abstract layer, ninth text: functions and their contracts. -/
import Derived.Test.YtmcfgljdpjalfaaV8
set_option linter.unusedVariables false
set_option linter.unusedSimpArgs false
set_option linter.constructorNameAsVariable false
set_option linter.unusedSectionVars false
namespace Go.Proofs.YtmcfgljdpjalfaaV
open Go.RowKit

/-! ### Values retold -/
structure Ret where
  tk : Tok → Option Tok
  so : Nat → Nat → Nat → AV
  elo : Nat → Nat → Nat → AV
  ptr : Nat → Nat → AV
  mo : Nat → AV
mutual
def AV.ret (ρ : Ret) : AV → AV
  | .agg xs => .agg (AV.retL ρ xs)
  | .tup xs => .tup (AV.retL ρ xs)
  | .sl e sz t xs => match ρ.tk t with | some t' => .sl e sz t' (AV.retL ρ xs) | none => .undef
  | .elp e sz t xs i off => match ρ.tk t with | some t' => .elp e sz t' (AV.retL ρ xs) i off | none => .undef
  | .so n off len => ρ.so n off len
  | .elo n i off => ρ.elo n i off
  | .ptr b off => ρ.ptr b off
  | .fn g cap => .fn g (AV.retL ρ cap)
  | .undef => .undef
  | .int k n => .int k n
  | .bool b => .bool b
  | .str s => .str s
  | .nilp => .nilp
  | .nilfn => .nilfn
  | .ub => .ub
  | .mo n => ρ.mo n
  | .yld l => .yld l
def AV.retL (ρ : Ret) : List AV → List AV
  | [] => []
  | x :: xs => x.ret ρ :: AV.retL ρ xs
end
theorem retL_length (ρ : Ret) : ∀ xs, (AV.retL ρ xs).length = xs.length
  | [] => rfl
  | _ :: xs => by simp [AV.retL, retL_length ρ xs]
theorem retL_map (ρ : Ret) : ∀ xs, AV.retL ρ xs = xs.map (AV.ret ρ)
  | [] => rfl
  | _ :: xs => by simp [AV.retL, retL_map ρ xs]

structure RetOk (ρ : Ret) (Im : Nat → Prop) (φ : Emb) (s : St) (B : Nat) (Im' : Nat → Prop) (φ' : Emb) (s' : St) (B' : Nat) (w : World) : Prop where
  tk : ∀ (t t' : Tok) (v : Value) (n : Nat) (cs : List Value), ρ.tk t = some t' → Mem Im φ s B w t v n cs → Mem Im' φ' s' B' w t' v n cs
  so : ∀ n off len v, rel Im φ s B w (.so n off len) v → rel Im' φ' s' B' w (ρ.so n off len) v
  elo : ∀ n i off v, rel Im φ s B w (.elo n i off) v → rel Im' φ' s' B' w (ρ.elo n i off) v
  ptr : ∀ b off v, rel Im φ s B w (.ptr b off) v → rel Im' φ' s' B' w (ρ.ptr b off) v
  mo : ∀ n v, rel Im φ s B w (.mo n) v → rel Im' φ' s' B' w (ρ.mo n) v
section
variable {ρ : Ret} {Im Im' : Nat → Prop} {φ φ' : Emb} {s s' : St} {B B' : Nat} {w : World}
mutual
theorem rel_ret (hM : RetOk ρ Im φ s B Im' φ' s' B' w) : ∀ (x : AV) (v : Value), rel Im φ s B w x v → rel Im' φ' s' B' w (x.ret ρ) v
  | .undef, _ => fun _ => by simp [AV.ret, rel]
  | .int k n, v => fun hr => by simpa [AV.ret, rel] using hr
  | .bool b, v => fun hr => by simpa [AV.ret, rel] using hr
  | .str x, v => fun hr => by simpa [AV.ret, rel] using hr
  | .nilp, v => fun hr => by simpa [AV.ret, rel] using hr
  | .nilfn, v => fun hr => by simpa [AV.ret, rel] using hr
  | .ub, v => fun hr => by simpa [AV.ret, rel] using hr
  | .yld l, v => fun hr => by simpa [AV.ret, rel] using hr
  | .mo n, v => fun hr => by simp only [AV.ret]; exact hM.mo n v hr
  | .ptr b off, v => fun hr => by simp only [AV.ret]; exact hM.ptr b off v hr
  | .so n off len, v => fun hr => by simp only [AV.ret]; exact hM.so n off len v hr
  | .elo n i off, v => fun hr => by simp only [AV.ret]; exact hM.elo n i off v hr
  | .agg xs, v => fun hr => by
    simp only [rel, AV.ret] at hr ⊢
    obtain ⟨cs, h1, h2, h3⟩ := hr
    exact ⟨cs, h1, relL_ret hM xs cs h2, h3⟩
  | .tup xs, v => fun hr => by
    simp only [rel, AV.ret] at hr ⊢
    obtain ⟨cs, h1, h2⟩ := hr
    exact ⟨cs, h1, relL_ret hM xs cs h2⟩
  | .sl e sz t xs, v => fun hr => by
    simp only [AV.ret]
    split
    · rename_i t' ht
      simp only [rel] at hr ⊢
      obtain ⟨cs, h1, h2⟩ := hr
      exact ⟨cs, relF_ret hM sz xs cs h1, by rw [retL_length]; exact hM.tk _ _ _ _ _ ht h2⟩
    · simp [rel]
  | .elp e sz t xs i off, v => fun hr => by
    simp only [AV.ret]
    split
    · rename_i t' ht
      simp only [rel] at hr ⊢
      obtain ⟨cs, sv, a, m, c, h1, h2, h3, h4, h5⟩ := hr
      exact ⟨cs, sv, a, m, c, relF_ret hM sz xs cs h1, by rw [retL_length]; exact hM.tk _ _ _ _ _ ht h2, h3, by rw [retL_length]; exact h4, h5⟩
    · simp [rel]
  | .fn g cap, v => fun hr => by
    simp only [rel, AV.ret] at hr ⊢
    obtain ⟨cs, h1, h2⟩ := hr
    exact ⟨cs, h1, relL_ret hM cap cs h2⟩
theorem relL_ret (hM : RetOk ρ Im φ s B Im' φ' s' B' w) : ∀ (xs : List AV) (vs : List Value), relL Im φ s B w xs vs → relL Im' φ' s' B' w (AV.retL ρ xs) vs
  | [], vs => fun hr => by simpa [AV.retL, relL] using hr
  | x :: xs, vs => fun hr => by
    simp only [relL, AV.retL] at hr ⊢
    obtain ⟨v, r, h1, h2, h3⟩ := hr
    exact ⟨v, r, h1, rel_ret hM x v h2, relL_ret hM xs r h3⟩
theorem relF_ret (hM : RetOk ρ Im φ s B Im' φ' s' B' w) (sz : Nat) : ∀ (xs : List AV) (cs : List Value), relF Im φ s B w sz xs cs → relF Im' φ' s' B' w sz (AV.retL ρ xs) cs
  | [], cs => fun hr => by simpa [AV.retL, relF] using hr
  | x :: xs, cs => fun hr => by
    simp only [relF, AV.retL] at hr ⊢
    obtain ⟨v, r, h1, h2, h3, h4, h5⟩ := hr
    exact ⟨v, r, h1, h2, h3, rel_ret hM x v h4, relF_ret hM sz xs r h5⟩
end
end

/-- Rows told as fixed slices (of token t0), but for those that are kept under another number. -/
def Ret.deep (tk : Tok → Option Tok) (keep : Nat → Option Nat) (s : St) (t0 : Option Tok) : Nat → Ret
  | 0 => ⟨tk, fun n off len => match keep n with | some k => .so k off len | none => .undef, fun _ _ _ => .undef, fun _ _ => .undef, fun n => match keep n with | some k => .mo k | none => .undef⟩
  | f + 1 => ⟨tk, fun n off len => match keep n with
    | some k => .so k off len
    | none => match s.at n with
      | some p => match t0 with
        | some t => .sl p.1 p.2.1 t (AV.retL (Ret.deep tk keep s t0 f) ((p.2.2.drop off).take len))
        | none => if len = 0 then .sl p.1 p.2.1 .ro [] else .undef
      | none => .undef, fun _ _ _ => .undef, fun _ _ => .undef, fun n => match keep n with | some k => .mo k | none => .undef⟩

section
variable {Im Im' : Nat → Prop} {φ φ' : Emb} {s s' : St} {B B' : Nat} {w : World}
/-- A slice of an own row in memory. -/
theorem so_mem (hI : Inv Im φ s B w) {n off len e sz : Nat} {xs : List AV} {v : Value} (ha : s.at n = some (e, sz, xs)) (h : rel Im φ s B w (.so n off len) v) :
    ∃ cs A c, relF Im φ s B w sz ((xs.drop off).take len) cs ∧ ((xs.drop off).take len).length = len ∧ v = .slice A len c ∧ len ≤ c ∧ (0 < len → ∃ a, A = some a ∧ φ.rw n = some a.block ∧ a.block < w.heap.size ∧ CellsAt w a cs) := by
  simp only [rel] at h
  obtain ⟨hl, hv⟩ := h.2 _ _ _ ha
  have hlen : ((xs.drop off).take len).length = len := by simp; omega
  rcases hv.2 with ⟨h1, rfl, rfl, rfl⟩ | ⟨g, cap, p, h1, h2, h3, rfl, h5, h6⟩
  · exact ⟨[], none, 0, by simp [relF], by simp, rfl, by simp, by simp⟩
  · obtain ⟨cs, hF, hc, hlt⟩ := hI.rowCells ha hv.1 h1
    refine ⟨_, _, _, relF_take len _ _ (relF_drop off _ _ hF), hlen, rfl, by omega, fun h0 => ⟨_, rfl, h1, hlt, fun j u hj => ?_⟩⟩
    rw [List.getElem?_take] at hj
    split at hj
    · rw [List.getElem?_drop] at hj
      have := hc _ u hj
      rw [Addr.add_lit', Nat.zero_add] at this
      rw [Addr.add_lit', h5 (by omega)]
      exact this
    · cases hj
theorem deep_ok (hI : Inv Im φ s B w) {tk : Tok → Option Tok} {keep : Nat → Option Nat} {t0 : Option Tok}
    (htk : ∀ (t t' : Tok) (v : Value) (n : Nat) (cs : List Value), tk t = some t' → Mem Im φ s B w t v n cs → Mem Im' φ' s' B' w t' v n cs)
    (hk : ∀ n k off len v, keep n = some k → rel Im φ s B w (.so n off len) v → rel Im' φ' s' B' w (.so k off len) v)
    (hkm : ∀ n k v, keep n = some k → rel Im φ s B w (.mo n) v → rel Im' φ' s' B' w (.mo k) v)
    (h0 : ∀ t n (A : Option Addr) len c cs, t0 = some t → keep n = none → s.live n = true → len ≤ c → (0 < len → ∃ a, A = some a ∧ φ.rw n = some a.block ∧ a.block < w.heap.size ∧ CellsAt w a cs) → Mem Im' φ' s' B' w t (.slice A len c) len cs) :
    ∀ f, RetOk (Ret.deep tk keep s t0 f) Im φ s B Im' φ' s' B' w
  | 0 => ⟨htk, fun n off len v hr => by
      simp only [Ret.deep]
      split
      · rename_i k hkk; exact hk _ _ _ _ _ hkk hr
      · simp [rel], fun _ _ _ _ _ => by simp [Ret.deep, rel], fun _ _ _ _ => by simp [Ret.deep, rel], fun n v hr => by
      simp only [Ret.deep]
      split
      · rename_i k hkk; exact hkm _ _ _ hkk hr
      · simp [rel]⟩
  | f + 1 => ⟨htk, fun n off len v hr => by
      have ih := deep_ok hI htk hk hkm h0 f
      simp only [Ret.deep]
      split
      · rename_i k hkk; exact hk _ _ _ _ _ hkk hr
      · rename_i hkk
        split
        · rename_i p hp
          obtain ⟨e, sz, xs⟩ := p
          obtain ⟨cs, A, c, h1, h2, rfl, h4, h5⟩ := so_mem hI hp hr
          split
          · rename_i t
            simp only [rel]
            refine ⟨cs, relF_ret ih sz _ _ h1, ?_⟩
            rw [retL_length, h2]
            exact h0 t n A len c cs rfl hkk (at_live hp) h4 h5
          · split
            · rename_i hz
              subst hz
              simp only [rel, relF]
              exact ⟨[], rfl, A, c, rfl, h4, fun h => absurd h (Nat.lt_irrefl _)⟩
            · simp [rel]
        · simp [rel], fun _ _ _ _ _ => by simp [Ret.deep, rel], fun _ _ _ _ => by simp [Ret.deep, rel], fun n v hr => by
      simp only [Ret.deep]
      split
      · rename_i k hkk; exact hkm _ _ _ hkk hr
      · simp [rel]⟩
end

def Emb.none : Emb := ⟨fun _ => 0, fun _ => .none⟩
def St.rows (l : List RowC) : St := ⟨[], l.map some⟩
theorem at_rows (l : List RowC) (n : Nat) : (St.rows l).at n = l[n]? := by
  unfold St.at St.rows
  simp only [List.getElem?_map]
  cases l[n]? <;> rfl
theorem live_rows (l : List RowC) (n : Nat) : (St.rows l).live n = true ↔ n < l.length := by
  unfold St.live
  rw [at_rows]
  simp
theorem not_mut_empty (φ : Emb) (g : Nat) : ¬ Mut φ St.empty g := by
  rintro (⟨b, hb, _⟩ | ⟨n, hn, _⟩)
  · simp [St.empty] at hb
  · simp [St.live, St.at, St.empty] at hn

/-! ### Results -/
def Ret.conv (s : St) (ρ : List Nat) : Ret := Ret.deep some (fun n => ρ.idxOf? n) s (some .fz) 6
/-- What a function gives back: its rows that are given over, the others frozen, and perhaps less told. -/
def Conv (s : St) (x : AV) (rows : List RowC) (r : AV) : Prop := ∃ ρ : List Nat, ρ.length = rows.length ∧ ρ.Nodup ∧
  (∀ (k n : Nat), ρ[k]? = some n → ∃ e sz xs ys, s.at n = some (e, sz, xs) ∧ rows[k]? = some (e, sz, ys) ∧ AV.leL (AV.retL (Ret.conv s ρ) xs) ys) ∧ (x.ret (Ret.conv s ρ)).le r

theorem idxOf?_some {ρ : List Nat} {n k : Nat} (h : ρ.idxOf? n = some k) : ρ[k]? = some n := by
  unfold List.idxOf? at h
  rw [List.findIdx?_eq_some_iff_getElem] at h
  obtain ⟨h1, h2, _⟩ := h
  rw [List.getElem?_eq_getElem h1]
  simpa using h2
theorem idxOf?_none {ρ : List Nat} {n : Nat} (h : ρ.idxOf? n = none) : n ∉ ρ := by
  intro hm
  unfold List.idxOf? at h
  rw [List.findIdx?_eq_none_iff] at h
  have := h n hm
  simp at this

theorem conv_ok {Im : Nat → Prop} {φ : Emb} {s : St} {B : Nat} {w : World} (hI : Inv Im φ s B w) {x : AV} {rows : List RowC} {r : AV} (h : Conv s x rows r) {v : Value} (hr : rel Im φ s B w x v) :
    ∃ φr, Inv Im φr (St.rows rows) B w ∧ rel Im φr (St.rows rows) B w r v := by
  obtain ⟨ρ, h1, h2, h3, hle⟩ := h
  have hlive : ∀ k n, ρ[k]? = some n → s.live n = true := fun k n hk => by obtain ⟨e, sz, xs, ys, ha, _⟩ := h3 k n hk; exact at_live ha
  have hget : ∀ k, k < rows.length → ∃ n, ρ[k]? = some n := fun k hk => ⟨_, List.getElem?_eq_getElem (by omega)⟩
  refine ⟨⟨fun _ => 0, fun k => (ρ[k]?).bind φ.rw⟩, ?_⟩
  have hmut : ∀ g, Mut ⟨fun _ => 0, fun k => (ρ[k]?).bind φ.rw⟩ (St.rows rows) g → ∃ n ∈ ρ, s.live n = true ∧ φ.rw n = some g := by
    rintro g (⟨b, hb, _⟩ | ⟨k, hk, he⟩)
    · simp [St.rows] at hb
    · obtain ⟨n, hn⟩ := hget k ((live_rows _ _).1 hk)
      simp only [hn, Option.bind_some] at he
      exact ⟨n, List.mem_of_getElem? hn, hlive k n hn, he⟩
  have hno : ∀ g, ¬ Mut φ s g → ¬ Mut ⟨fun _ => 0, fun k => (ρ[k]?).bind φ.rw⟩ (St.rows rows) g := fun g hg h => by obtain ⟨n, _, hl, he⟩ := hmut g h; exact hg (.inr ⟨n, hl, he⟩)
  have hret : RetOk (Ret.conv s ρ) Im φ s B Im ⟨fun _ => 0, fun k => (ρ[k]?).bind φ.rw⟩ (St.rows rows) B w := by
    refine deep_ok hI (fun t t' v n cs ht hm => ?_) (fun n k off len v hk hr => ?_) (fun n k v hk hr => ?_) (fun t n A len c cs ht hk hl hlc hm => ?_) 6
    · injection ht with ht
      subst ht
      cases t with
      | nil => exact hm
      | ro =>
        obtain ⟨A, c, rfl, hc, hm⟩ := hm
        refine ⟨A, c, rfl, hc, fun hn => ?_⟩
        obtain ⟨a, k1, k2, k3, k4, k5⟩ := hm hn
        exact ⟨a, k1, k2, hno _ k3, k4, k5⟩
      | fz =>
        obtain ⟨A, c, rfl, hc, hm⟩ := hm
        refine ⟨A, c, rfl, hc, fun hn => ?_⟩
        obtain ⟨a, k1, k2, k3, k4, k5⟩ := hm hn
        exact ⟨a, k1, k2, hno _ k3, k4, k5⟩
    · have hk' := idxOf?_some hk
      have hklt : k < ρ.length := (List.getElem?_eq_some_iff.1 hk').1
      simp only [rel] at hr ⊢
      refine ⟨by simp [St.rows]; omega, fun e sz xs ha => ?_⟩
      obtain ⟨e', sz', xs', ys, g1, g2, g3⟩ := h3 k n hk'
      rw [at_rows, g2] at ha
      simp only [Option.some.injEq, Prod.mk.injEq] at ha
      obtain ⟨rfl, rfl, rfl⟩ := ha
      obtain ⟨q1, q2⟩ := hr.2 _ _ _ g1
      have hl := leL_len _ _ g3
      rw [retL_length] at hl
      refine ⟨by omega, q2.1, ?_⟩
      rcases q2.2 with ⟨j1, j2⟩ | ⟨g, cap, p, j1, ⟨g', cur, j2, j3⟩, j4⟩
      · exact .inl ⟨by simp [hk', j1], j2⟩
      · exact .inr ⟨g, cap, p, by simp [hk', j1], ⟨g', cur, by simp [hk', j2], j3⟩, j4⟩
    · have hk' := idxOf?_some hk
      have hklt : k < ρ.length := (List.getElem?_eq_some_iff.1 hk').1
      simp only [rel] at hr ⊢
      refine ⟨by simp [St.rows]; omega, fun e sz xs ha => ?_⟩
      obtain ⟨e', sz', xs', ys, g1, g2, g3⟩ := h3 k n hk'
      rw [at_rows, g2] at ha
      simp only [Option.some.injEq, Prod.mk.injEq] at ha
      obtain ⟨rfl, rfl, rfl⟩ := ha
      obtain ⟨q1, g, q2, q3⟩ := hr.2 _ _ _ g1
      exact ⟨q1, g, by simp [hk', q2], q3⟩
    · injection ht with ht
      subst ht
      refine ⟨A, c, rfl, hlc, fun h0 => ?_⟩
      obtain ⟨a, rfl, k2, k3, k4⟩ := hm h0
      refine ⟨a, rfl, k3, fun h => ?_, (hI.bnd _ (.inr ⟨n, hl, k2⟩)).1, k4⟩
      obtain ⟨m, h5, hl', he⟩ := hmut _ h
      exact idxOf?_none hk (hI.rwinj m n _ hl' hl he k2 ▸ h5)
  refine ⟨⟨hI.hB, fun g hg => ?_, fun b b' hb => by simp [St.rows] at hb, fun i j g hi hj h5 h6 => ?_, fun b n hb => by simp [St.rows] at hb, fun b ty cs hb => by simp [St.rows] at hb, fun k e sz ys hk => ?_⟩, ?_⟩
  · obtain ⟨n, hn, hl, he⟩ := hmut g hg
    exact hI.bnd g (.inr ⟨n, hl, he⟩)
  · obtain ⟨m, hm⟩ := hget i ((live_rows _ _).1 hi)
    obtain ⟨n, hn⟩ := hget j ((live_rows _ _).1 hj)
    simp only [hm, Option.bind_some] at h5
    simp only [hn, Option.bind_some] at h6
    have := hI.rwinj _ _ g (hlive i m hm) (hlive j n hn) h5 h6
    subst this
    have a1 := (List.getElem?_eq_some_iff.1 hm)
    have a2 := (List.getElem?_eq_some_iff.1 hn)
    obtain ⟨b1, b2⟩ := a1
    obtain ⟨c1, c2⟩ := a2
    exact (List.getElem_inj h2).1 (b2.trans c2.symm)
  · rw [at_rows] at hk
    have hklt : k < rows.length := (List.getElem?_eq_some_iff.1 hk).1
    obtain ⟨n, hn⟩ := hget k hklt
    obtain ⟨e', sz', xs', ys', g1, g2, g3⟩ := h3 k n hn
    rw [g2] at hk
    simp only [Option.some.injEq, Prod.mk.injEq] at hk
    obtain ⟨rfl, rfl, rfl⟩ := hk
    have hl := leL_len _ _ g3
    rw [retL_length] at hl
    rcases hI.rows n _ _ _ g1 with ⟨q0, q1 | ⟨g, cap, cur, cs, q1, q2, q3, q4, q5, q6, q7⟩⟩ | ⟨q0, g, ms, clock, q1, q2, qb, q3⟩
    · refine .inl ⟨q0, .inl ⟨by simp [hn, q1.1], ?_⟩⟩
      rw [q1.2] at hl
      exact List.eq_nil_of_length_eq_zero hl
    rotate_left
    · exact .inr ⟨q0, g, ms, clock, by simp [hn, q1], q2, qb, leL_ok _ _ _ g3 (relL_ret hret _ _ q3)⟩
    · exact .inl ⟨q0, .inr ⟨g, cap, cur, cs, by simp [hn, q1], q2, q3, q4, by omega, leF_ok _ _ _ _ g3 (relF_ret hret _ _ _ q6), by rw [hl]; exact q7⟩⟩
  · exact le_ok _ _ _ hle (rel_ret hret x v hr)

/-- A contract of a function that changes nothing that was there: called with values that read as args, it returns one that reads as r, with rows that are the caller's. -/
def Pure (P : Program) (f : Nat) (args : List AV) (rows : List RowC) (r : AV) : Prop :=
  Enters P f ∧ ∀ Im w vals, relL Im Emb.none St.empty w.heap.size w args vals → Calls P f vals.toArray w fun e w' => ∃ φr v, e = .returned v ∧ (Below w.heap.size w w' ∧ w.drawn ≤ w'.drawn) ∧ Inv Im φr (St.rows rows) w.heap.size w' ∧ rel Im φr (St.rows rows) w.heap.size w' r v

/-! ### At a call -/
/-- How arguments are told (a: nothing of the caller's own rows, and what comes back may be of the arguments). -/
def tkArg : Tok → Option Tok | .nil => some .nil | _ => some .ro
def Ret.arg (s : St) (a : Bool) : Ret := Ret.deep tkArg (fun _ => none) s (if a = true then none else some .ro) 6
def tkRes (a : Bool) : Tok → Option Tok | .nil => some .nil | .fz => some .fz | .ro => if a = true then some .ro else none
def Ret.res (a : Bool) (k : Nat) : Ret := Ret.deep (tkRes a) (fun n => some (n + k)) St.empty none 0
def addRows (s : St) (a : Bool) (rows : List RowC) : St := ⟨s.box, s.row ++ rows.map fun r => some (r.1, r.2.1, AV.retL (Ret.res a s.row.length) r.2.2)⟩
theorem at_addRows (s : St) (a : Bool) (rows : List RowC) (n : Nat) : (addRows s a rows).at n = if n < s.row.length then s.at n else (rows[n - s.row.length]?).map fun r => (r.1, r.2.1, AV.retL (Ret.res a s.row.length) r.2.2) := by
  unfold St.at addRows
  simp only
  split
  · rename_i h
    rw [List.getElem?_append_left h]
  · rename_i h
    rw [List.getElem?_append_right (by omega), List.getElem?_map]
    cases rows[n - s.row.length]? <;> rfl
theorem live_addRows (s : St) (a : Bool) (rows : List RowC) (n : Nat) : (addRows s a rows).live n = true ↔ ((n < s.row.length ∧ s.live n = true) ∨ (s.row.length ≤ n ∧ (St.rows rows).live (n - s.row.length) = true)) := by
  unfold St.live
  rw [at_addRows, at_rows]
  split
  · rename_i h
    exact ⟨fun hh => .inl ⟨h, hh⟩, fun hh => by rcases hh with ⟨_, h2⟩ | ⟨h1, _⟩; exact h2; omega⟩
  · rename_i h
    simp only [Option.isSome_map]
    exact ⟨fun hh => .inr ⟨by omega, hh⟩, fun hh => by rcases hh with ⟨h1, _⟩ | ⟨_, h2⟩; exact absurd h1 h; exact h2⟩
def ImA (a : Bool) (Im : Nat → Prop) (φ : Emb) (s : St) (B : Nat) (g : Nat) : Prop := a = true → ¬ Mut φ s g ∧ (g < B → Im g)

theorem arg_ok {Im : Nat → Prop} {φ : Emb} {s : St} {B : Nat} {w : World} (hI : Inv Im φ s B w) (a : Bool) : RetOk (Ret.arg s a) Im φ s B (ImA a Im φ s B) Emb.none St.empty w.heap.size w := by
  refine deep_ok hI (fun t t' v n cs ht hm => ?_) (fun n k off len v hk hr => by cases hk) (fun n k v hk hr => by cases hk) (fun t n A len c cs ht hk hl hlc hm => ?_) 6
  · cases t with
    | nil => injection ht with ht; subst ht; exact hm
    | ro =>
      injection ht with ht
      subst ht
      obtain ⟨A, c, rfl, hc, hm⟩ := hm
      refine ⟨A, c, rfl, hc, fun hn => ?_⟩
      obtain ⟨a', k1, k2, k3, k4, k5⟩ := hm hn
      exact ⟨a', k1, k2, not_mut_empty _ _, fun _ _ => ⟨k3, k4⟩, k5⟩
    | fz =>
      injection ht with ht
      subst ht
      obtain ⟨A, c, rfl, hc, hm⟩ := hm
      refine ⟨A, c, rfl, hc, fun hn => ?_⟩
      obtain ⟨a', k1, k2, k3, k4, k5⟩ := hm hn
      exact ⟨a', k1, k2, not_mut_empty _ _, fun _ _ => ⟨k3, fun h => by omega⟩, k5⟩
  · split at ht
    · cases ht
    · rename_i hn
      injection ht with ht
      subst ht
      refine ⟨A, c, rfl, hlc, fun h0 => ?_⟩
      obtain ⟨a', k1, k2, k3, k4⟩ := hm h0
      exact ⟨a', k1, k3, not_mut_empty _ _, fun _ h => absurd h hn, k4⟩

theorem import_ok {Im : Nat → Prop} {φ : Emb} {s : St} {B : Nat} {w w' : World} (hI : Inv Im φ s B w) (a : Bool) {φr : Emb} {rows : List RowC} (hb : Below w.heap.size w w') (hdr : w.drawn ≤ w'.drawn) (hr : Inv (ImA a Im φ s B) φr (St.rows rows) w.heap.size w') {r : AV} {v : Value}
    (hv : rel (ImA a Im φ s B) φr (St.rows rows) w.heap.size w' r v) :
    ∃ φ1, Step B φ s w φ1 (addRows s a rows) w' ∧ Inv Im φ1 (addRows s a rows) B w' ∧ rel Im φ1 (addRows s a rows) B w' (r.ret (Ret.res a s.row.length)) v := by
  let φ1 : Emb := { φ with rw := fun n => if n < s.row.length then φ.rw n else φr.rw (n - s.row.length) }
  have hbB : Below B w w' := hb.mono hI.hB
  have tk1 : ∀ n, n < s.row.length → φ1.rw n = φ.rw n := fun n hn => if_pos hn
  have tk2 : ∀ n, s.row.length ≤ n → φ1.rw n = φr.rw (n - s.row.length) := fun n hn => if_neg (by omega)
  have hmut : ∀ g, Mut φ1 (addRows s a rows) g → Mut φ s g ∨ Mut φr (St.rows rows) g := by
    rintro g (⟨b, hb, he⟩ | ⟨n, hn, he⟩)
    · exact .inl (.inl ⟨b, hb, he⟩)
    · rcases (live_addRows ..).1 hn with ⟨h1, h2⟩ | ⟨h1, h2⟩
      · rw [tk1 n h1] at he
        exact .inl (.inr ⟨n, h2, he⟩)
      · rw [tk2 n h1] at he
        exact .inr (.inr ⟨_, h2, he⟩)
  have far : ∀ g, Mut φr (St.rows rows) g → w.heap.size ≤ g := fun g hg => (hr.bnd g hg).1
  have near : ∀ g, Mut φ s g → g < w.heap.size := fun g hg => (hI.bnd g hg).2
  have hstep : Step B φ s w φ1 (addRows s a rows) w' := by
    refine ⟨by simp [addRows], Nat.le_refl _, fun _ _ => rfl, fun n e sz xs' hn hl => ?_, fun g hg hm => ⟨hb.block g hg, fun h => ?_⟩, hbB, hdr⟩
    · rw [at_addRows, if_pos hn] at hl
      exact ⟨⟨xs', hl, fun _ => rfl⟩, tk1 n hn, fun cap hc => hc.later (tk1 n hn) fun g hg => hb.block g (near g (.inr ⟨n, at_live hl, hg⟩))⟩
    · rcases hmut g h with h | h
      · exact hm h
      · have := far g h; omega
  have hret : RetOk (Ret.res a s.row.length) (ImA a Im φ s B) φr (St.rows rows) w.heap.size Im φ1 (addRows s a rows) B w' := by
    refine ⟨fun t t' v n cs ht hm => ?_, fun n off len v hr => ?_, fun _ _ _ _ _ => by simp [Ret.res, Ret.deep, rel], fun _ _ _ _ => by simp [Ret.res, Ret.deep, rel], fun n v hr => ?_⟩
    rotate_left 2
    · simp only [Ret.res, Ret.deep]
      simp only [rel] at hr ⊢
      have hlen : (St.rows rows).row.length = rows.length := by simp [St.rows]
      refine ⟨by simp [addRows]; omega, fun e sz xs ha => ?_⟩
      rw [at_addRows, if_neg (by omega), Nat.add_sub_cancel] at ha
      obtain ⟨q, hq, he⟩ := Option.map_eq_some_iff.1 ha
      simp only [Prod.mk.injEq] at he
      obtain ⟨rfl, rfl, rfl⟩ := he
      obtain ⟨q1, g, q2, q3⟩ := hr.2 q.1 q.2.1 q.2.2 (by rw [at_rows, hq])
      exact ⟨q1, g, by rw [tk2 _ (by omega), Nat.add_sub_cancel]; exact q2, q3⟩
    · cases t with
      | nil => injection ht with ht; subst ht; exact hm
      | ro =>
        simp only [Ret.res, Ret.deep, tkRes] at ht
        split at ht
        · rename_i ha
          injection ht with ht
          subst ht
          obtain ⟨A, c, rfl, hc, hm⟩ := hm
          refine ⟨A, c, rfl, hc, fun hn => ?_⟩
          obtain ⟨ad, k1, k2, k3, k4, k5⟩ := hm hn
          refine ⟨ad, k1, k2, fun h => ?_, fun h => ?_, k5⟩
          · rcases hmut _ h with h | h
            · exact (k4 (near _ h) ha).1 h
            · exact k3 h
          · exact (k4 (Nat.lt_of_lt_of_le h hI.hB) ha).2 h
        · cases ht
      | fz =>
        injection ht with ht
        subst ht
        obtain ⟨A, c, rfl, hc, hm⟩ := hm
        refine ⟨A, c, rfl, hc, fun hn => ?_⟩
        obtain ⟨ad, k1, k2, k3, k4, k5⟩ := hm hn
        refine ⟨ad, k1, k2, fun h => ?_, Nat.le_trans hI.hB k4, k5⟩
        rcases hmut _ h with h | h
        · have := near _ h; omega
        · exact k3 h
    · simp only [Ret.res, Ret.deep]
      simp only [rel] at hr ⊢
      have hlen : (St.rows rows).row.length = rows.length := by simp [St.rows]
      refine ⟨by simp [addRows]; omega, fun e sz xs ha => ?_⟩
      rw [at_addRows, if_neg (by omega), Nat.add_sub_cancel] at ha
      obtain ⟨q, hq, he⟩ := Option.map_eq_some_iff.1 ha
      simp only [Prod.mk.injEq] at he
      obtain ⟨rfl, rfl, rfl⟩ := he
      rw [retL_length]
      obtain ⟨q1, q2⟩ := hr.2 q.1 q.2.1 q.2.2 (by rw [at_rows, hq])
      refine ⟨q1, q2.1, ?_⟩
      have e1 : φ1.rw (n + s.row.length) = φr.rw n := by rw [tk2 _ (by omega), Nat.add_sub_cancel]
      rcases q2.2 with ⟨j1, j2⟩ | ⟨g, cap, p, j1, ⟨g', cur, j2, j3⟩, j4⟩
      · exact .inl ⟨by rw [e1]; exact j1, j2⟩
      · exact .inr ⟨g, cap, p, by rw [e1]; exact j1, ⟨g', cur, by rw [e1]; exact j2, j3⟩, j4⟩
  refine ⟨φ1, hstep, ⟨Nat.le_trans hI.hB hb.size, fun g hg => ?_, hI.bxinj, fun i j g hi hj h1 h2 => ?_, fun b n hb' hn he => ?_, fun b ty cs hb' => ?_, fun n e sz xs hl => ?_⟩, rel_ret hret _ _ hv⟩
  · rcases hmut g hg with h | h
    · obtain ⟨k1, k2⟩ := hI.bnd g h
      exact ⟨k1, Nat.lt_of_lt_of_le k2 hb.size⟩
    · obtain ⟨k1, k2⟩ := hr.bnd g h
      exact ⟨Nat.le_trans hI.hB k1, k2⟩
  · rcases (live_addRows ..).1 hi with ⟨i1, i2⟩ | ⟨i1, i2⟩
    · rw [tk1 i i1] at h1
      rcases (live_addRows ..).1 hj with ⟨j1, j2⟩ | ⟨j1, j2⟩
      · rw [tk1 j j1] at h2
        exact hI.rwinj i j g i2 j2 h1 h2
      · rw [tk2 j j1] at h2
        have := near g (.inr ⟨i, i2, h1⟩)
        have := far g (.inr ⟨_, j2, h2⟩)
        omega
    · rw [tk2 i i1] at h1
      rcases (live_addRows ..).1 hj with ⟨j1, j2⟩ | ⟨j1, j2⟩
      · rw [tk1 j j1] at h2
        have := near g (.inr ⟨j, j2, h2⟩)
        have := far g (.inr ⟨_, i2, h1⟩)
        omega
      · rw [tk2 j j1] at h2
        have := hr.rwinj _ _ g i2 j2 h1 h2
        omega
  · rcases (live_addRows ..).1 hn with ⟨h1, h2⟩ | ⟨h1, h2⟩
    · rw [tk1 n h1] at he
      exact hI.bxrw b n hb' h2 he
    · rw [tk2 n h1] at he
      have := near _ (.inl ⟨b, hb', rfl⟩)
      have := far _ (.inr ⟨_, h2, he⟩)
      have e : φ1.bx b = φ.bx b := rfl
      omega
  · obtain ⟨vs, k1, k2, k3⟩ := hI.cells b ty cs hb'
    have hlt : b < s.box.length := (List.getElem?_eq_some_iff.1 hb').1
    exact ⟨vs, by rw [← k1]; exact hb.block _ (near _ (.inl ⟨b, hlt, rfl⟩)), relL_step hstep _ _ k2, k3⟩
  · rw [at_addRows] at hl
    split at hl
    · rename_i hn
      have := RowOk.step hstep (RowOk.later (hI.rows n e sz xs hl) fun g hg => hb.block g (near g (.inr ⟨n, at_live hl, hg⟩)))
      rw [← tk1 n hn] at this
      exact this
    · rename_i hn
      obtain ⟨q, hq, he⟩ := Option.map_eq_some_iff.1 hl
      simp only [Prod.mk.injEq] at he
      obtain ⟨rfl, rfl, rfl⟩ := he
      rw [tk2 n (by omega)]
      rcases hr.rows (n - s.row.length) q.1 q.2.1 q.2.2 (by rw [at_rows, hq]) with ⟨q0, q1 | ⟨g, cap, cur, cs, q1, q2, q3, q4, q5, q6, q7⟩⟩ | ⟨q0, g, ms, clock, q1, q2, qb, q3⟩
      · exact .inl ⟨q0, .inl ⟨q1.1, by rw [q1.2]; rfl⟩⟩
      rotate_left
      · exact .inr ⟨q0, g, ms, clock, q1, q2, qb, relL_ret hret _ _ q3⟩
      · exact .inl ⟨q0, .inr ⟨g, cap, cur, cs, q1, q2, q3, q4, by rw [retL_length]; exact q5, relF_ret hret _ _ _ q6, by rw [retL_length]; exact q7⟩⟩

/-- The contract at a call. -/
theorem Pure.call {P : Program} {f : Nat} {args : List AV} {rows : List RowC} {r : AV} (h : Pure P f args rows r) (a : Bool) {s : St} {xs : List AV} (he : AV.leL (AV.retL (Ret.arg s a) xs) args) :
    Fclean P f s xs fun s' r' => s' = addRows s a rows ∧ r' = r.ret (Ret.res a s.row.length) := by
  refine ⟨h.1, fun Im φ B w vals hI hr => ?_⟩
  have hargs := leL_ok _ _ _ he (relL_ret (arg_ok hI a) xs vals hr)
  refine (h.2 _ w vals hargs).mono fun e w' hh => ?_
  obtain ⟨φr, v, rfl, ⟨hb, hdr⟩, hIr, hv⟩ := hh
  obtain ⟨φ1, k1, k2, k3⟩ := import_ok hI a hb hdr hIr hv
  exact ⟨φ1, _, _, v, rfl, k1, k2, k3, ⟨rfl, rfl⟩, hb⟩

/-! ### From a body to a contract -/
def F0 (args : List AV) : Fr := fun i => (args[i]?).getD .undef
def resAV1 (T : Tab) (F : Fr) (s : St) : ResultVar → Option AV
  | .tmp t => some (F t)
  | .cell a t => loadAV T s t (F a)
def resAVs (T : Tab) (F : Fr) (s : St) : List ResultVar → Option (List AV)
  | [] => some []
  | x :: r => match resAV1 T F s x, resAVs T F s r with
    | some y, some l => some (y :: l)
    | _, _ => none
def resAV (T : Tab) (rs : List ResultVar) (F : Fr) (s : St) : Option AV :=
  match resAVs T F s rs with
  | some [x] => some x
  | some xs => some (.tup xs)
  | none => none
def RetQ (T : Tab) (rs : List ResultVar) (R : St → AV → Prop) : Exit → Fr → St → Prop
  | .normal, F, s => ∃ r, resAV T rs F s = some r ∧ R s r
  | .ret, F, s => ∃ r, resAV T rs F s = some r ∧ R s r
  | _, _, _ => False

def res1 (tmps : Array Value) : ResultVar → Sem Value
  | .tmp t => pure (tmps.getD t undef)
  | .cell a t => do loadVar t (← asAddr (tmps.getD a undef))
theorem results_eq (fn : Func) (tmps : Array Value) : results fn tmps = (do let vs ← fn.results.mapM (res1 tmps); pure (if h : vs.size = 1 then vs[0] else .tuple vs)) := by
  unfold results
  have : (fun x : ResultVar => (match x with | .tmp t => pure (tmps.getD t undef) | .cell a t => do loadVar t (← asAddr (tmps.getD a undef)) : Sem Value)) = res1 tmps := by
    funext x
    cases x <;> rfl
  rw [← this]
  rfl
section
variable {P : Program} {T : Tab} (hT : TabOk P T) {Im : Nat → Prop} {φ : Emb} {s : St} {B : Nat} {w : World} {F : Fr} {a : Act}
include hT
theorem resAVs_ok (hF : Holds Im φ s B w F a) (hI : Inv Im φ s B w) : ∀ (rs : List ResultVar) (xs : List AV), resAVs T F s rs = some xs → ∃ vs : List Value, (rs.mapM (res1 a.tmps)).run P w = .ok vs w ∧ relL Im φ s B w xs vs
  | [], xs, h => by simp only [resAVs, Option.some.injEq] at h; subst h; exact ⟨[], rfl, by simp [relL]⟩
  | x :: r, xs, h => by
    simp only [resAVs] at h
    split at h
    · rename_i y l hy hl
      injection h with h
      subst h
      obtain ⟨vs, k1, k2⟩ := resAVs_ok hF hI r l hl
      have one : ∃ v, (res1 a.tmps x).run P w = .ok v w ∧ rel Im φ s B w y v := by
        cases x with
        | tmp t =>
          simp only [resAV1, Option.some.injEq] at hy
          subst hy
          exact ⟨_, rfl, hF t⟩
        | cell p t =>
          simp only [resAV1] at hy
          obtain ⟨v, j1, j2⟩ := loadAV_ok hT hI hy (hF p)
          have j := j1 w (Below.refl _ _)
          refine ⟨v, ?_, j2⟩
          simp only [res1]
          generalize a.tmps.getD p undef = q at j
          unfold Instr.loadAt at j
          cases q with
          | pointer o =>
            cases o with
            | some ad => simpa [Instr.sureAddr, asAddr] using j
            | none => simp [Instr.sureAddr, stuck] at j
          | _ => simp [Instr.sureAddr, stuck] at j
      obtain ⟨v, j1, j2⟩ := one
      refine ⟨v :: vs, ?_, by simp only [relL]; exact ⟨v, vs, rfl, j2, k2⟩⟩
      simp only [List.mapM_cons, Sem.run_bind, Sem.run_pure]
      rw [j1]
      simp only [Result.andThen_ok]
      rw [k1]
      rfl
    · cases h
theorem resAV_ok {fn : Func} (hF : Holds Im φ s B w F a) (hI : Inv Im φ s B w) {x : AV} (h : resAV T fn.results.toList F s = some x) : ∃ v, (results fn a.tmps).run P w = .ok v w ∧ rel Im φ s B w x v := by
  unfold resAV at h
  have go : ∀ xs, resAVs T F s fn.results.toList = some xs → ∃ vs : List Value, (fn.results.mapM (res1 a.tmps)).run P w = .ok vs.toArray w ∧ relL Im φ s B w xs vs := by
    intro xs hxs
    obtain ⟨vs, k1, k2⟩ := resAVs_ok hT hF hI _ _ hxs
    refine ⟨vs, ?_, k2⟩
    rw [Array.mapM_eq_mapM_toList, Sem.run_map, k1]
    rfl
  split at h
  · rename_i y hy
    injection h with h
    subst h
    obtain ⟨vs, k1, k2⟩ := go _ hy
    have hl := relL_len _ _ k2
    match vs, hl with
    | [v], _ =>
      simp only [relL] at k2
      obtain ⟨v', r', e, hv, _⟩ := k2
      simp only [List.cons.injEq] at e
      obtain ⟨rfl, _⟩ := e
      refine ⟨v, ?_, hv⟩
      rw [results_eq, Sem.run_bind, k1]
      rfl
  · rename_i xs hne hxs
    injection h with h
    subst h
    obtain ⟨vs, k1, k2⟩ := go _ hxs
    have hl := relL_len _ _ k2
    have h1 : vs.length ≠ 1 := by
      intro h1
      rw [h1] at hl
      match xs, hl, hxs, hne with
      | [y], _, hxs, hne => exact hne y rfl
    refine ⟨.tuple vs.toArray, ?_, by simp only [rel]; exact ⟨vs, rfl, k2⟩⟩
    rw [results_eq, Sem.run_bind, k1]
    simp [h1]
  · cases h
end

theorem enters_of' {P : Program} {f : Nat} {fn : Func} {c : Code} (hf : P.funcs[f]? = some fn) (hname : (fn.name == "runtime.NumGoroutine") = false) (hb : fn.body = some c) : Enters P f := by
  intro args w
  have h1 : fn.name ≠ "runtime.NumGoroutine" := by simpa using hname
  simp [callFunc, hf, h1, hb]

theorem Marks.put {φ : Emb} {s : St} {w0 w : World} {D : Nat} {o : Obj} : ∀ {ds : List Deferred}, (∀ d' ∈ ds, ∀ D', d'.target = .collected D' → D' < D) → Marks φ s w0 w ds → Marks φ s w0 (w.putObj D o) ds
  | [], _, _ => trivial
  | d :: ds, hlt, h => by
    obtain ⟨⟨D', h1, h2, h3, h4, h5⟩, h6⟩ := h
    have := hlt d (by simp) D' (by rw [h1])
    exact ⟨⟨D', h1, (World.putObj_heap_other (by omega)).trans h2, h3, h4, h5⟩, Marks.put (fun d' hd' => hlt d' (by simp [hd'])) h6⟩
/-- The way out of a function: the marks are taken, then the results. -/
theorem leaves_marks {P : Program} {T : Tab} (hT : TabOk P T) {fn : Func} {Im : Nat → Prop} {φ0 φ1 : Emb} {s0 s1 : St} {w0 : World} {B : Nat} (hB : B ≤ w0.heap.size) {F1 : Fr} {R : St → AV → Prop} {r : AV} {tmps : Array Value} (hr : ∀ w', Inv Im φ1 s1 B w' → (∀ i, rel Im φ1 s1 B w' (F1 i) (tmps.getD i undef)) → ∃ v, (results fn tmps).run P w' = .ok v w' ∧ rel Im φ1 s1 B w' r v) (hR : R s1 r) :
    ∀ (ds : List Deferred) (w' : World), Marks φ1 s1 w0 w' ds → Inv Im φ1 s1 B w' → Step B φ0 s0 w0 φ1 s1 w' → (∀ i, rel Im φ1 s1 B w' (F1 i) (tmps.getD i undef)) →
      LeavesInM Fence.wide 0 P fn tmps (fun e w' => ∃ φ' s' r v, e = .returned v ∧ Step B φ0 s0 w0 φ' s' w' ∧ Inv Im φ' s' B w' ∧ rel Im φ' s' B w' r v ∧ R s' r) ds .returning w'
  | [], w', _, hI, hst, hh => by
    obtain ⟨v, k1, k2⟩ := hr w' hI hh
    exact ⟨v, k1, φ1, s1, r, v, rfl, hst, hI, k2, hR⟩
  | d :: ds, w', hm, hI, hst, hh => by
    obtain ⟨⟨D, h1, h2, h3, h4, h5⟩, h6⟩ := hm
    have hoff := off_put (o' := .deferred none) h2 (fun _ _ _ h => by cases h) (fun _ _ h => by cases h)
    refine ⟨by simp, .inl ⟨D, _, by rw [h1], run_takeDeferred h2, leaves_marks hT hB hr hR ds _ (Marks.put h5 h6) (hI.off hoff) (hst.offEnd hoff h3 hB) fun i => rel_off hoff _ _ (hh i)⟩⟩
theorem Ysound.of_AW {P : Program} {T : Tab} (hT : TabOk P T) (hm : P.follows .mixedOrders = true) {f : Nat} {fn : Func} {c : Code} (hf : P.funcs[f]? = some fn) (hb : fn.body = some c) {Y : Nat → St → List AV → (St → AV → Prop) → Prop}
    {n : Nat} {args : List AV} (hN : fn.ntmps = n ∧ args.length ≤ n) {s : St} {R : St → AV → Prop} (h : AW P T ⟨n, true, Y⟩ c (RetQ T fn.results.toList R) (F0 args) s) : Ysound P f Y s args R := by
  intro Im φ B w vals hI hr hY
  obtain ⟨rfl, hN⟩ := hN
  have hl := relL_len _ _ hr
  refine callsIn_wide.1 (callsIn_of_wp_marks (F := Fence.wide) (n := 0) hf hb trivial ?_)
  have hS : Sim ⟨fn.ntmps, true, Y⟩ Im φ s w B φ (F0 args) s { tmps := vals.toArray ++ Array.replicate (fn.ntmps - vals.toArray.size) undef, defers := [] } w := by
    refine ⟨fun i => ?_, by simp; omega, trivial, hI, Step.refl ..⟩
    unfold F0
    rcases Nat.lt_or_ge i args.length with h | h
    · rw [List.getElem?_eq_getElem h]
      obtain ⟨v, hv, hx⟩ := relL_get _ _ hr i _ (List.getElem?_eq_getElem h)
      have hi : i < vals.length := (List.getElem?_eq_some_iff.1 hv).1
      have e : (vals.toArray ++ Array.replicate (fn.ntmps - vals.toArray.size) undef).getD i undef = v := by
        rw [Array.getD_eq_getD_getElem?, Array.getElem?_append_left (by simpa using hi)]
        simp [hv]
      rw [e]
      exact hx
    · rw [List.getElem?_eq_none h]
      simp [rel]
  refine wpIn_mono (AW_ok hT hm c 0 _ none _ φ s w _ _ _ _ _ (fun _ => rfl) hY hS h) fun e a w' hh => ?_
  have fin : (∃ φ1 F1 s1, Sim ⟨fn.ntmps, true, Y⟩ Im φ s w B φ1 F1 s1 a w' ∧ ∃ r, resAV T fn.results.toList F1 s1 = some r ∧ R s1 r) →
      LeavesInM Fence.wide 0 P fn a.tmps (fun e w' => ∃ φ' s' r v, e = .returned v ∧ Step B φ s w φ' s' w' ∧ Inv Im φ' s' B w' ∧ rel Im φ' s' B w' r v ∧ R s' r) a.defers .returning w' := by
    rintro ⟨φ1, F1, s1, hS1, r, hr1, hR⟩
    refine leaves_marks hT hI.hB (F1 := F1) (fun w'' hI' hh => ?_) hR a.defers w' (by have := hS1.defers; simpa [DefOk] using this) hS1.inv hS1.step hS1.holds
    exact resAV_ok hT (a := a) hh hI' hr1
  cases e with
  | normal => exact fin hh
  | ret => exact fin hh
  | exit i => obtain ⟨_, _, _, _, h⟩ := hh; exact h.elim
  | goto i => obtain ⟨_, _, _, _, h⟩ := hh; exact h.elim
  | panic c => exact hh.elim
  | outgrown => exact hh.elim
theorem Fsound.of_AW {P : Program} {T : Tab} (hT : TabOk P T) (hm : P.follows .mixedOrders = true) {f : Nat} {fn : Func} {c : Code} (hf : P.funcs[f]? = some fn) (hname : (fn.name == "runtime.NumGoroutine") = false) (hb : fn.body = some c)
    {n : Nat} {args : List AV} (hN : fn.ntmps = n ∧ args.length ≤ n) {s : St} {R : St → AV → Prop} (h : AW P T ⟨n, true, noY⟩ c (RetQ T fn.results.toList R) (F0 args) s) : Fsound P f s args R :=
  ⟨enters_of' hf hname hb, fun Im φ B w vals hI hr => Ysound.of_AW hT hm hf hb hN h Im φ B w vals hI hr YOk.no⟩

theorem inv_empty {Im : Nat → Prop} (w : World) : Inv Im Emb.none St.empty w.heap.size w :=
  ⟨Nat.le_refl _, fun g h => (not_mut_empty _ _ h).elim, fun b b' h => by simp [St.empty] at h, fun m n g h => by simp [St.live, St.at, St.empty] at h, fun b n h => by simp [St.empty] at h, fun b ty cs h => by simp [St.empty] at h, fun n e sz xs h => by simp [St.at, St.empty] at h⟩

theorem Fsound.pure {P : Program} {f : Nat} {args : List AV} {rows : List RowC} {r : AV} (h : Fsound P f St.empty args fun s' r' => Conv s' r' rows r) : Pure P f args rows r := by
  refine ⟨h.1, fun Im w vals hr => (h.2 Im Emb.none _ w vals (inv_empty w) hr).mono fun e w' hh => ?_⟩
  obtain ⟨φ', s', r', v, rfl, k1, k2, k3, k4⟩ := hh
  obtain ⟨φr, j1, j2⟩ := conv_ok k2 k4 k3
  exact ⟨φr, v, rfl, ⟨k1.below, k1.drawn⟩, j1, j2⟩
end Go.Proofs.YtmcfgljdpjalfaaV
