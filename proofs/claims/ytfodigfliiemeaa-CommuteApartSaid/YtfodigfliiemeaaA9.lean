/- The abstract layer, ninth text: functions and their contracts. -/
import Derived.Test.YtfodigfliiemeaaA8
namespace Go.Proofs.YtfodigfliiemeaaA
open Go.RowKit

/-! ### Tokens turned -/
mutual
def AV.ret (f : Tok → Tok) : AV → AV
  | .agg xs => .agg (AV.retL f xs)
  | .tup xs => .tup (AV.retL f xs)
  | .sl e sz t xs => .sl e sz (f t) (AV.retL f xs)
  | .elp e sz t xs i off => .elp e sz (f t) (AV.retL f xs) i off
  | .fn g cap => .fn g (AV.retL f cap)
  | .undef => .undef
  | .int k n => .int k n
  | .bool b => .bool b
  | .str s => .str s
  | .nilp => .nilp
  | .ptr b off => .ptr b off
  | .nilfn => .nilfn
def AV.retL (f : Tok → Tok) : List AV → List AV
  | [] => []
  | x :: xs => x.ret f :: AV.retL f xs
end
mutual
/-- No address of a box, and all tokens are of p. -/
def AV.allT (p : Tok → Bool) : AV → Bool
  | .agg xs => AV.allTL p xs
  | .tup xs => AV.allTL p xs
  | .sl _ _ t xs => p t && AV.allTL p xs
  | .elp .. => false
  | .ptr .. => false
  | .fn _ cap => AV.allTL p cap
  | _ => true
def AV.allTL (p : Tok → Bool) : List AV → Bool
  | [] => true
  | x :: xs => x.allT p && AV.allTL p xs
end
theorem retL_length (f : Tok → Tok) : ∀ xs, (AV.retL f xs).length = xs.length
  | [] => rfl
  | _ :: xs => by simp [AV.retL, retL_length f xs]

def MemMap (Im Im' : Nat → Prop) (φ φ' : Emb) (s s' : St) (B B' : Nat) (w : World) (f : Tok → Tok) (p : Tok → Bool) : Prop :=
  ∀ (e sz : Nat) (t : Tok) (v : Value) (n : Nat) (cs : List Value), p t = true → Mem Im φ s B w e sz t v n cs → Mem Im' φ' s' B' w e sz (f t) v n cs
section
variable {Im Im' : Nat → Prop} {φ φ' : Emb} {s s' : St} {B B' : Nat} {w : World} {f : Tok → Tok} {p : Tok → Bool}
mutual
theorem rel_ret (hM : MemMap Im Im' φ φ' s s' B B' w f p) : ∀ (x : AV) (v : Value), x.allT p = true → rel Im φ s B w x v → rel Im' φ' s' B' w (x.ret f) v
  | .undef, _ => fun _ _ => by simp [AV.ret, rel]
  | .int k n, v => fun _ hr => by simpa [AV.ret, rel] using hr
  | .bool b, v => fun _ hr => by simpa [AV.ret, rel] using hr
  | .str x, v => fun _ hr => by simpa [AV.ret, rel] using hr
  | .nilp, v => fun _ hr => by simpa [AV.ret, rel] using hr
  | .nilfn, v => fun _ hr => by simpa [AV.ret, rel] using hr
  | .ptr .., v => fun h _ => by simp [AV.allT] at h
  | .elp .., v => fun h _ => by simp [AV.allT] at h
  | .agg xs, v => fun h hr => by
    simp only [rel, AV.ret] at hr ⊢
    obtain ⟨cs, h1, h2, h3⟩ := hr
    exact ⟨cs, h1, relL_ret hM xs cs (by simpa [AV.allT] using h) h2, h3⟩
  | .tup xs, v => fun h hr => by
    simp only [rel, AV.ret] at hr ⊢
    obtain ⟨cs, h1, h2⟩ := hr
    exact ⟨cs, h1, relL_ret hM xs cs (by simpa [AV.allT] using h) h2⟩
  | .sl e sz t xs, v => fun h hr => by
    simp only [rel, AV.ret] at hr ⊢
    simp only [AV.allT, Bool.and_eq_true] at h
    obtain ⟨cs, h1, h2⟩ := hr
    exact ⟨cs, relF_ret hM sz xs cs h.2 h1, by rw [retL_length]; exact hM _ _ _ _ _ _ h.1 h2⟩
  | .fn g cap, v => fun h hr => by
    simp only [rel, AV.ret] at hr ⊢
    obtain ⟨cs, h1, h2⟩ := hr
    exact ⟨cs, h1, relL_ret hM cap cs (by simpa [AV.allT] using h) h2⟩
theorem relL_ret (hM : MemMap Im Im' φ φ' s s' B B' w f p) : ∀ (xs : List AV) (vs : List Value), AV.allTL p xs = true → relL Im φ s B w xs vs → relL Im' φ' s' B' w (AV.retL f xs) vs
  | [], vs => fun _ hr => by simpa [AV.retL, relL] using hr
  | x :: xs, vs => fun h hr => by
    simp only [relL, AV.retL] at hr ⊢
    simp only [AV.allTL, Bool.and_eq_true] at h
    obtain ⟨v, r, h1, h2, h3⟩ := hr
    exact ⟨v, r, h1, rel_ret hM x v h.1 h2, relL_ret hM xs r h.2 h3⟩
theorem relF_ret (hM : MemMap Im Im' φ φ' s s' B B' w f p) (sz : Nat) : ∀ (xs : List AV) (cs : List Value), AV.allTL p xs = true → relF Im φ s B w sz xs cs → relF Im' φ' s' B' w sz (AV.retL f xs) cs
  | [], cs => fun _ hr => by simpa [AV.retL, relF] using hr
  | x :: xs, cs => fun h hr => by
    simp only [relF, AV.retL] at hr ⊢
    simp only [AV.allTL, Bool.and_eq_true] at h
    obtain ⟨v, r, h1, h2, h3, h4, h5⟩ := hr
    exact ⟨v, r, h1, h2, h3, rel_ret hM x v h.1 h4, relF_ret hM sz xs r h.2 h5⟩
end
end

def Tok.frz : Tok → Tok | .nil => .nil | _ => .ro
def Tok.shift (k : Nat) : Tok → Tok | .own n => .own (n + k) | .vw n => .vw (n + k) | t => t
def Tok.ren (ρ : List Nat) : Tok → Tok | .own n => (match ρ.idxOf? n with | some k => .own k | none => .fz) | .vw _ => .fz | t => t
def Tok.okR (ρ : List Nat) (s : St) : Tok → Bool | .own n => s.live n | .vw n => s.live n && !ρ.contains n | _ => true
def Tok.noRo : Tok → Bool | .ro => false | _ => true
def Emb.none : Emb := ⟨fun _ => 0, fun _ => .none⟩
def St.toks (m : Nat) : St := ⟨[], List.replicate m true⟩

theorem not_mut_empty (φ : Emb) (g : Nat) : ¬ Mut φ St.empty g := by
  rintro (⟨b, hb, _⟩ | ⟨n, hn, _⟩)
  · simp [St.empty] at hb
  · simp [St.live, St.empty] at hn
theorem Mem.frz {Im : Nat → Prop} {φ : Emb} {s : St} {B : Nat} {w : World} {e sz : Nat} {t : Tok} {v : Value} {n : Nat} {cs : List Value} (B' : Nat) (ht : t.ok s = true) (h : Mem Im φ s B w e sz t v n cs) :
    Mem (fun _ => True) Emb.none St.empty B' w e sz t.frz v n cs := by
  obtain ⟨A, c, rfl, hc⟩ := h.slice ht
  have key : Mem (fun _ => True) Emb.none St.empty B' w e sz .ro (.slice A n c) n cs := by
    refine ⟨A, c, rfl, hc, fun hn => ?_⟩
    obtain ⟨a, h1, h2, h3⟩ := h.at_ ht hn
    exact ⟨a, h1, h2, not_mut_empty _ _, fun _ => trivial, h3⟩
  cases t with
  | nil => exact h
  | _ => exact key

theorem toks_live {m n : Nat} : (St.toks m).live n = true ↔ n < m := by
  unfold St.live St.toks
  rw [List.getD_eq_getElem?_getD, List.getElem?_replicate]
  split <;> simp_all

/-- What a function gives back: its tokens numbered anew, and perhaps less told. -/
def Conv (s : St) (x : AV) (m : Nat) (r : AV) : Prop := ∃ ρ : List Nat, ρ.length = m ∧ ρ.Nodup ∧ (∀ n ∈ ρ, s.live n = true) ∧ x.allT (Tok.okR ρ s) = true ∧ (x.ret (Tok.ren ρ)).le r

theorem idxOf?_some {ρ : List Nat} {n k : Nat} (h : ρ.idxOf? n = some k) : ρ[k]? = some n := by
  unfold List.idxOf? at h
  rw [List.findIdx?_eq_some_iff_getElem] at h
  obtain ⟨h1, h2, _⟩ := h
  rw [List.getElem?_eq_getElem h1]
  simpa using h2
theorem idxOf?_none {ρ : List Nat} {n : Nat} (h : ρ.idxOf? n = none) : n ∉ ρ := by
  intro hm
  unfold List.idxOf? at h
  rw [List.findIdx?_eq_none_iff] at h
  have := h n hm
  simp at this

theorem conv_ok {Im : Nat → Prop} {φ : Emb} {s : St} {B : Nat} {w : World} (hI : Inv Im φ s B w) {x : AV} {m : Nat} {r : AV} (h : Conv s x m r) {v : Value} (hr : rel Im φ s B w x v) :
    ∃ φr, Inv Im φr (St.toks m) B w ∧ rel Im φr (St.toks m) B w r v := by
  obtain ⟨ρ, h1, h2, h3, h4, hle⟩ := h
  subst h1
  refine ⟨⟨fun _ => 0, fun k => (ρ[k]?).bind φ.tk⟩, ?_, ?_⟩
  · have hmut : ∀ g, Mut ⟨fun _ => 0, fun k => (ρ[k]?).bind φ.tk⟩ (St.toks ρ.length) g → ∃ n ∈ ρ, s.live n = true ∧ φ.tk n = some g := by
      rintro g (⟨b, hb, _⟩ | ⟨k, hk, he⟩)
      · simp [St.toks] at hb
      · have hk' := toks_live.1 hk
        simp only [List.getElem?_eq_getElem hk', Option.bind_some] at he
        exact ⟨ρ[k], List.getElem_mem hk', h3 _ (List.getElem_mem hk'), he⟩
    refine ⟨hI.hB, fun g hg => ?_, fun b b' hb => by simp [St.toks] at hb, fun i j g hi hj h5 h6 => ?_, fun b n hb => by simp [St.toks] at hb, fun b ty cs hb => by simp [St.toks] at hb⟩
    · obtain ⟨n, hn, hl, he⟩ := hmut g hg
      exact hI.bnd g (.inr ⟨n, hl, he⟩)
    · have hi' := toks_live.1 hi
      have hj' := toks_live.1 hj
      simp only [List.getElem?_eq_getElem hi', Option.bind_some] at h5
      simp only [List.getElem?_eq_getElem hj', Option.bind_some] at h6
      have := hI.tkinj _ _ g (h3 _ (List.getElem_mem hi')) (h3 _ (List.getElem_mem hj')) h5 h6
      exact (List.getElem_inj h2).1 this
  · have hmut : ∀ g, Mut ⟨fun _ => 0, fun k => (ρ[k]?).bind φ.tk⟩ (St.toks ρ.length) g → ∃ n ∈ ρ, s.live n = true ∧ φ.tk n = some g := by
      rintro g (⟨b, hb, _⟩ | ⟨k, hk, he⟩)
      · simp [St.toks] at hb
      · have hk' := toks_live.1 hk
        simp only [List.getElem?_eq_getElem hk', Option.bind_some] at he
        exact ⟨ρ[k], List.getElem_mem hk', h3 _ (List.getElem_mem hk'), he⟩
    refine le_ok _ _ _ hle (rel_ret (p := Tok.okR ρ s) (fun e sz t v n cs ht hm => ?_) x v h4 hr)
    cases t with
    | nil => exact hm
    | ro =>
      obtain ⟨A, c, rfl, hc, hm⟩ := hm
      refine ⟨A, c, rfl, hc, fun hn => ?_⟩
      obtain ⟨a, k1, k2, k3, k4, k5⟩ := hm hn
      exact ⟨a, k1, k2, fun h => by obtain ⟨n, _, hl, he⟩ := hmut _ h; exact k3 (.inr ⟨n, hl, he⟩), k4, k5⟩
    | fz =>
      obtain ⟨A, c, rfl, hc, hm⟩ := hm
      refine ⟨A, c, rfl, hc, fun hn => ?_⟩
      obtain ⟨a, k1, k2, k3, k4, k5⟩ := hm hn
      exact ⟨a, k1, k2, fun h => by obtain ⟨n, _, hl, he⟩ := hmut _ h; exact k3 (.inr ⟨n, hl, he⟩), k4, k5⟩
    | own q =>
      have hm' := hm
      obtain ⟨hq, hm⟩ := hm
      obtain ⟨ho, hb⟩ := hm ht
      simp only [Tok.ren]
      cases hi : ρ.idxOf? q with
      | some k =>
        have hk := idxOf?_some hi
        have hklt : k < ρ.length := (List.getElem?_eq_some_iff.1 hk).1
        exact ⟨by simp [St.toks, hklt], fun _ => ⟨ho, by rw [hb]; show _ = (ρ[k]?).bind φ.tk; rw [hk]; rfl⟩⟩
      | none =>
        have hn := idxOf?_none hi
        obtain ⟨A, c, rfl, hc⟩ := hm'.slice (s := s) ht
        refine ⟨A, c, rfl, hc, fun h0 => ?_⟩
        obtain ⟨a, rfl, k2, k3⟩ := hm'.at_ (s := s) ht h0
        have hblk : φ.tk q = some a.block := by rw [← hb]; rfl
        refine ⟨a, rfl, k2, fun h => ?_, (hI.bnd _ (.inr ⟨q, ht, hblk⟩)).1, k3⟩
        obtain ⟨n, h5, hl, he⟩ := hmut _ h
        exact hn (hI.tkinj n q _ hl ht he hblk ▸ h5)
    | vw q =>
      simp only [Tok.okR, Bool.and_eq_true, Bool.not_eq_true', List.contains_eq_mem, decide_eq_false_iff_not] at ht
      obtain ⟨_, hm⟩ := hm
      obtain ⟨A, c, rfl, hc, hm⟩ := hm ht.1
      refine ⟨A, c, rfl, hc, fun h0 => ?_⟩
      obtain ⟨a, k1, k2, k3, k4⟩ := hm h0
      refine ⟨a, k1, k2, fun h => ?_, (hI.bnd _ (.inr ⟨q, ht.1, k3⟩)).1, k4⟩
      obtain ⟨n, h5, hl, he⟩ := hmut _ h
      exact ht.2 (hI.tkinj n q _ hl ht.1 he k3 ▸ h5)

/-- A contract of a function that changes nothing that was there: called with values that read as args, it returns one that reads as r, m of whose rows are the caller's to append to. -/
def Pure (P : Program) (f : Nat) (args : List AV) (m : Nat) (r : AV) : Prop :=
  Enters P f ∧ ∀ Im w vals, relL Im Emb.none St.empty w.heap.size w args vals → Calls P f vals.toArray w fun e w' => ∃ φr v, e = .returned v ∧ Below w.heap.size w w' ∧ Inv Im φr (St.toks m) w.heap.size w' ∧ rel Im φr (St.toks m) w.heap.size w' r v

def addToks (s : St) (m : Nat) : St := ⟨s.box, s.tok ++ List.replicate m true⟩
theorem addToks_live {s : St} {m n : Nat} : (addToks s m).live n = true ↔ (s.live n = true ∨ (s.tok.length ≤ n ∧ n - s.tok.length < m)) := by
  unfold St.live addToks
  simp only [List.getD_eq_getElem?_getD]
  rcases Nat.lt_or_ge n s.tok.length with h | h
  · rw [List.getElem?_append_left h]
    simp [Nat.not_le_of_lt h]
  · rw [List.getElem?_append_right h, List.getElem?_replicate, List.getElem?_eq_none h]
    split <;> simp_all

theorem import_ok {Im : Nat → Prop} {φ : Emb} {s : St} {B : Nat} {w w' : World} (hI : Inv Im φ s B w) {Im' : Nat → Prop} {φr : Emb} {m : Nat} (hb : Below w.heap.size w w') (hr : Inv Im' φr (St.toks m) w.heap.size w') {r : AV} {v : Value}
    (hro : r.allT Tok.noRo = true) (hv : rel Im' φr (St.toks m) w.heap.size w' r v) :
    ∃ φ1, Step B φ s w φ1 (addToks s m) w' ∧ Inv Im φ1 (addToks s m) B w' ∧ rel Im φ1 (addToks s m) B w' (r.ret (Tok.shift s.tok.length)) v := by
  let φ1 : Emb := { φ with tk := fun n => if n < s.tok.length then φ.tk n else φr.tk (n - s.tok.length) }
  have hbB : Below B w w' := hb.mono hI.hB
  have tk1 : ∀ n, n < s.tok.length → φ1.tk n = φ.tk n := fun n hn => if_pos hn
  have tk2 : ∀ n, s.tok.length ≤ n → φ1.tk n = φr.tk (n - s.tok.length) := fun n hn => if_neg (by omega)
  have hmut : ∀ g, Mut φ1 (addToks s m) g → Mut φ s g ∨ Mut φr (St.toks m) g := by
    rintro g (⟨b, hb, he⟩ | ⟨n, hn, he⟩)
    · exact .inl (.inl ⟨b, hb, he⟩)
    · rcases addToks_live.1 hn with h | ⟨h1, h2⟩
      · rw [tk1 n (live_lt h)] at he
        exact .inl (.inr ⟨n, h, he⟩)
      · rw [tk2 n h1] at he
        exact .inr (.inr ⟨_, toks_live.2 h2, he⟩)
  have far : ∀ g, Mut φr (St.toks m) g → w.heap.size ≤ g := fun g hg => (hr.bnd g hg).1
  have near : ∀ g, Mut φ s g → g < w.heap.size := fun g hg => (hI.bnd g hg).2
  have hstep : Step B φ s w φ1 (addToks s m) w' := by
    refine ⟨by simp [addToks], Nat.le_refl _, fun _ _ => rfl, fun n hn hl => ?_, fun g hg hm => ⟨hb.block g hg, fun h => ?_⟩, hbB⟩
    · rcases addToks_live.1 hl with h | ⟨h1, _⟩
      · exact ⟨h, tk1 n hn, fun g hg => hb.block g (near g (.inr ⟨n, h, hg⟩))⟩
      · omega
    · rcases hmut g h with h | h
      · exact hm h
      · have := far g h; omega
  refine ⟨φ1, hstep, ⟨Nat.le_trans hI.hB hb.size, fun g hg => ?_, hI.bxinj, fun i j g hi hj h1 h2 => ?_, fun b n hb' hn he => ?_, fun b ty cs hb' => ?_⟩, ?_⟩
  · rcases hmut g hg with h | h
    · obtain ⟨k1, k2⟩ := hI.bnd g h
      exact ⟨k1, Nat.lt_of_lt_of_le k2 hb.size⟩
    · obtain ⟨k1, k2⟩ := hr.bnd g h
      exact ⟨Nat.le_trans hI.hB k1, k2⟩
  · rcases addToks_live.1 hi with hi | ⟨i1, i2⟩
    · rw [tk1 i (live_lt hi)] at h1
      rcases addToks_live.1 hj with hj | ⟨j1, j2⟩
      · rw [tk1 j (live_lt hj)] at h2
        exact hI.tkinj i j g hi hj h1 h2
      · rw [tk2 j j1] at h2
        have := near g (.inr ⟨i, hi, h1⟩)
        have := far g (.inr ⟨_, toks_live.2 j2, h2⟩)
        omega
    · rw [tk2 i i1] at h1
      rcases addToks_live.1 hj with hj | ⟨j1, j2⟩
      · rw [tk1 j (live_lt hj)] at h2
        have := near g (.inr ⟨j, hj, h2⟩)
        have := far g (.inr ⟨_, toks_live.2 i2, h1⟩)
        omega
      · rw [tk2 j j1] at h2
        have := hr.tkinj _ _ g (toks_live.2 i2) (toks_live.2 j2) h1 h2
        omega
  · rcases addToks_live.1 hn with h | ⟨h1, h2⟩
    · rw [tk1 n (live_lt h)] at he
      exact hI.bxtk b n hb' h he
    · rw [tk2 n h1] at he
      have := near _ (.inl ⟨b, hb', rfl⟩)
      have := far _ (.inr ⟨_, toks_live.2 h2, he⟩)
      have e : φ1.bx b = φ.bx b := rfl
      omega
  · obtain ⟨vs, k1, k2, k3⟩ := hI.cells b ty cs hb'
    have hlt : b < s.box.length := (List.getElem?_eq_some_iff.1 hb').1
    exact ⟨vs, by rw [← k1]; exact hb.block _ (near _ (.inl ⟨b, hlt, rfl⟩)), relL_step hstep _ _ k2, k3⟩
  · refine rel_ret (p := Tok.noRo) (fun e sz t v n cs ht hm => ?_) r v hro hv
    cases t with
    | nil => exact hm
    | ro => cases ht
    | fz =>
      obtain ⟨A, c, rfl, hc, hm⟩ := hm
      refine ⟨A, c, rfl, hc, fun hn => ?_⟩
      obtain ⟨a, k1, k2, k3, k4, k5⟩ := hm hn
      refine ⟨a, k1, k2, fun h => ?_, Nat.le_trans hI.hB k4, k5⟩
      rcases hmut _ h with h | h
      · have := near _ h; omega
      · exact k3 h
    | own q =>
      obtain ⟨hq, hm⟩ := hm
      have hqm : q < m := by simpa [St.toks] using hq
      refine ⟨by simp [addToks]; omega, fun _ => ?_⟩
      obtain ⟨ho, hbk⟩ := hm (toks_live.2 hqm)
      rw [tk2 _ (by omega), Nat.add_sub_cancel]
      refine ⟨⟨ho.1, ?_⟩, hbk⟩
      rcases ho.2 with h | ⟨g, cap, cur, h1, h2, h3⟩
      · exact .inl h
      · exact .inr ⟨g, cap, cur, h1, Nat.le_trans hI.hB h2, h3⟩
    | vw q =>
      obtain ⟨hq, hm⟩ := hm
      have hqm : q < m := by simpa [St.toks] using hq
      refine ⟨by simp [addToks]; omega, fun _ => ?_⟩
      obtain ⟨A, c, rfl, hc, hm⟩ := hm (toks_live.2 hqm)
      refine ⟨A, c, rfl, hc, fun hn => ?_⟩
      obtain ⟨a, k1, k2, k3, k4⟩ := hm hn
      exact ⟨a, k1, k2, by rw [tk2 _ (by omega), Nat.add_sub_cancel]; exact k3, k4⟩

/-- The contract at a call, whatever tokens the arguments bear. -/
theorem Pure.call {P : Program} {f : Nat} {args : List AV} {m : Nat} {r : AV} (h : Pure P f args m r) (hro : r.allT Tok.noRo = true) {s : St} {xs : List AV} (hx : AV.allTL (Tok.ok s) xs = true) (he : AV.leL (AV.retL Tok.frz xs) args) :
    Fclean P f s xs fun s' r' => s' = addToks s m ∧ r' = r.ret (Tok.shift s.tok.length) := by
  refine ⟨h.1, fun Im φ B w vals hI hr => ?_⟩
  have hargs : relL (fun _ => True) Emb.none St.empty w.heap.size w args vals := by
    exact leL_ok _ _ _ he (relL_ret (p := Tok.ok s) (fun e sz t v n cs ht hm => hm.frz _ ht) xs vals hx hr)
  refine (h.2 _ w vals hargs).mono fun e w' hh => ?_
  obtain ⟨φr, v, rfl, hb, hIr, hv⟩ := hh
  obtain ⟨φ1, k1, k2, k3⟩ := import_ok hI hb hIr hro hv
  exact ⟨φ1, _, _, v, rfl, k1, k2, k3, ⟨rfl, rfl⟩, hb⟩

/-! ### From a body to a contract -/
def F0 (args : List AV) : Fr := fun i => (args[i]?).getD .undef
def resAV1 (T : Tab) (F : Fr) (s : St) : ResultVar → Option AV
  | .tmp t => some (F t)
  | .cell a t => loadAV T s t (F a)
def resAVs (T : Tab) (F : Fr) (s : St) : List ResultVar → Option (List AV)
  | [] => some []
  | x :: r => match resAV1 T F s x, resAVs T F s r with
    | some y, some l => some (y :: l)
    | _, _ => none
def resAV (T : Tab) (rs : List ResultVar) (F : Fr) (s : St) : Option AV :=
  match resAVs T F s rs with
  | some [x] => some x
  | some xs => some (.tup xs)
  | none => none
def RetQ (T : Tab) (rs : List ResultVar) (R : St → AV → Prop) : Exit → Fr → St → Prop
  | .normal, F, s => ∃ r, resAV T rs F s = some r ∧ R s r
  | .ret, F, s => ∃ r, resAV T rs F s = some r ∧ R s r
  | _, _, _ => False

def res1 (tmps : Array Value) : ResultVar → Sem Value
  | .tmp t => pure (tmps.getD t undef)
  | .cell a t => do loadVar t (← asAddr (tmps.getD a undef))
theorem results_eq (fn : Func) (tmps : Array Value) : results fn tmps = (do let vs ← fn.results.mapM (res1 tmps); pure (if h : vs.size = 1 then vs[0] else .tuple vs)) := by
  unfold results
  have : (fun x : ResultVar => (match x with | .tmp t => pure (tmps.getD t undef) | .cell a t => do loadVar t (← asAddr (tmps.getD a undef)) : Sem Value)) = res1 tmps := by
    funext x
    cases x <;> rfl
  rw [← this]
  rfl
section
variable {P : Program} {T : Tab} (hT : TabOk P T) {Im : Nat → Prop} {φ : Emb} {s : St} {B : Nat} {w : World} {F : Fr} {a : Act}
include hT
theorem resAVs_ok (hF : Holds Im φ s B w F a) (hI : Inv Im φ s B w) : ∀ (rs : List ResultVar) (xs : List AV), resAVs T F s rs = some xs → ∃ vs : List Value, (rs.mapM (res1 a.tmps)).run P w = .ok vs w ∧ relL Im φ s B w xs vs
  | [], xs, h => by simp only [resAVs, Option.some.injEq] at h; subst h; exact ⟨[], rfl, by simp [relL]⟩
  | x :: r, xs, h => by
    simp only [resAVs] at h
    split at h
    · rename_i y l hy hl
      injection h with h
      subst h
      obtain ⟨vs, k1, k2⟩ := resAVs_ok hF hI r l hl
      have one : ∃ v, (res1 a.tmps x).run P w = .ok v w ∧ rel Im φ s B w y v := by
        cases x with
        | tmp t =>
          simp only [resAV1, Option.some.injEq] at hy
          subst hy
          exact ⟨_, rfl, hF t⟩
        | cell p t =>
          simp only [resAV1] at hy
          obtain ⟨v, j1, j2⟩ := loadAV_ok hT hI hy (hF p)
          have j := j1 w (Below.refl _ _)
          refine ⟨v, ?_, j2⟩
          simp only [res1]
          generalize a.tmps.getD p undef = q at j
          unfold Instr.loadAt at j
          cases q with
          | pointer o =>
            cases o with
            | some ad => simpa [Instr.sureAddr, asAddr] using j
            | none => simp [Instr.sureAddr, stuck] at j
          | _ => simp [Instr.sureAddr, stuck] at j
      obtain ⟨v, j1, j2⟩ := one
      refine ⟨v :: vs, ?_, by simp only [relL]; exact ⟨v, vs, rfl, j2, k2⟩⟩
      simp only [List.mapM_cons, Sem.run_bind, Sem.run_pure]
      rw [j1]
      simp only [Result.andThen_ok]
      rw [k1]
      rfl
    · cases h
theorem resAV_ok {fn : Func} (hF : Holds Im φ s B w F a) (hI : Inv Im φ s B w) {x : AV} (h : resAV T fn.results.toList F s = some x) : ∃ v, (results fn a.tmps).run P w = .ok v w ∧ rel Im φ s B w x v := by
  unfold resAV at h
  have go : ∀ xs, resAVs T F s fn.results.toList = some xs → ∃ vs : List Value, (fn.results.mapM (res1 a.tmps)).run P w = .ok vs.toArray w ∧ relL Im φ s B w xs vs := by
    intro xs hxs
    obtain ⟨vs, k1, k2⟩ := resAVs_ok hT hF hI _ _ hxs
    refine ⟨vs, ?_, k2⟩
    rw [Array.mapM_eq_mapM_toList, Sem.run_map, k1]
    rfl
  split at h
  · rename_i y hy
    injection h with h
    subst h
    obtain ⟨vs, k1, k2⟩ := go _ hy
    have hl := relL_len _ _ k2
    match vs, hl with
    | [v], _ =>
      simp only [relL] at k2
      obtain ⟨v', r', e, hv, _⟩ := k2
      simp only [List.cons.injEq] at e
      obtain ⟨rfl, _⟩ := e
      refine ⟨v, ?_, hv⟩
      rw [results_eq, Sem.run_bind, k1]
      rfl
  · rename_i xs hne hxs
    injection h with h
    subst h
    obtain ⟨vs, k1, k2⟩ := go _ hxs
    have hl := relL_len _ _ k2
    have h1 : vs.length ≠ 1 := by
      intro h1
      rw [h1] at hl
      match xs, hl, hxs, hne with
      | [y], _, hxs, hne => exact hne y rfl
    refine ⟨.tuple vs.toArray, ?_, by simp only [rel]; exact ⟨vs, rfl, k2⟩⟩
    rw [results_eq, Sem.run_bind, k1]
    simp [h1]
  · cases h
end

theorem enters_of' {P : Program} {f : Nat} {fn : Func} {c : Code} (hf : P.funcs[f]? = some fn) (hname : (fn.name == "runtime.NumGoroutine") = false) (hb : fn.body = some c) : Enters P f := by
  intro args w
  have h1 : fn.name ≠ "runtime.NumGoroutine" := by simpa using hname
  simp [callFunc, hf, h1, hb]

theorem Fsound.of_AW {P : Program} {T : Tab} (hT : TabOk P T) (hm : P.follows .mixedOrders = true) {f : Nat} {fn : Func} {c : Code} (hf : P.funcs[f]? = some fn) (hname : (fn.name == "runtime.NumGoroutine") = false) (hb : fn.body = some c)
    {N : Nat} {args : List AV} (hN : fn.ntmps = N ∧ args.length ≤ N) {s : St} {R : St → AV → Prop} (h : AW P T N c (RetQ T fn.results.toList R) (F0 args) s) : Fsound P f s args R := by
  refine ⟨enters_of' hf hname hb, fun Im φ B w vals hI hr => ?_⟩
  obtain ⟨rfl, hN⟩ := hN
  have hl := relL_len _ _ hr
  refine calls_of_wp hf hb ?_
  have hS : Sim fn.ntmps Im φ s w B φ (F0 args) s { tmps := vals.toArray ++ Array.replicate (fn.ntmps - vals.toArray.size) undef, defers := [] } w := by
    refine ⟨fun i => ?_, by simp; omega, rfl, hI, Step.refl ..⟩
    unfold F0
    rcases Nat.lt_or_ge i args.length with h | h
    · rw [List.getElem?_eq_getElem h]
      obtain ⟨v, hv, hx⟩ := relL_get _ _ hr i _ (List.getElem?_eq_getElem h)
      have hi : i < vals.length := (List.getElem?_eq_some_iff.1 hv).1
      have e : (vals.toArray ++ Array.replicate (fn.ntmps - vals.toArray.size) undef).getD i undef = v := by
        rw [Array.getD_eq_getD_getElem?, Array.getElem?_append_left (by simpa using hi)]
        simp [hv]
      rw [e]
      exact hx
    · rw [List.getElem?_eq_none h]
      simp [rel]
  refine wp_mono (AW_ok hT hm c _ _ _ _ _ _ hS h) fun e a w' hh => ?_
  have fin : (∃ φ1 F1 s1, Sim fn.ntmps Im φ s w B φ1 F1 s1 a w' ∧ ∃ r, resAV T fn.results.toList F1 s1 = some r ∧ R s1 r) → a.defers = [] ∧ ∃ v, (results fn a.tmps).run P w' = .ok v w' ∧
      ∃ φ' s' r v', Ending.returned v = .returned v' ∧ Step B φ s w φ' s' w' ∧ Inv Im φ' s' B w' ∧ rel Im φ' s' B w' r v' ∧ R s' r := by
    rintro ⟨φ1, F1, s1, hS1, r, hr1, hR⟩
    obtain ⟨v, k1, k2⟩ := resAV_ok hT hS1.holds hS1.inv hr1
    exact ⟨hS1.defers, v, k1, φ1, s1, r, v, rfl, hS1.step, hS1.inv, k2, hR⟩
  cases e with
  | normal => exact fin hh
  | ret => exact fin hh
  | exit i => obtain ⟨_, _, _, _, h⟩ := hh; exact h.elim
  | goto i => obtain ⟨_, _, _, _, h⟩ := hh; exact h.elim
  | panic c => exact hh.elim
  | outgrown => exact hh.elim

theorem inv_empty {Im : Nat → Prop} (w : World) : Inv Im Emb.none St.empty w.heap.size w :=
  ⟨Nat.le_refl _, fun g h => (not_mut_empty _ _ h).elim, fun b b' h => by simp [St.empty] at h, fun m n g h => by simp [St.live, St.empty] at h, fun b n h => by simp [St.empty] at h, fun b ty cs h => by simp [St.empty] at h⟩

theorem Fsound.pure {P : Program} {f : Nat} {args : List AV} {m : Nat} {r : AV} (h : Fsound P f St.empty args fun s' r' => Conv s' r' m r) : Pure P f args m r := by
  refine ⟨h.1, fun Im w vals hr => (h.2 Im Emb.none _ w vals (inv_empty w) hr).mono fun e w' hh => ?_⟩
  obtain ⟨φ', s', r', v, rfl, k1, k2, k3, k4⟩ := hh
  obtain ⟨φr, j1, j2⟩ := conv_ok k2 k4 k3
  exact ⟨φr, v, rfl, k1.below, j1, j2⟩
end Go.Proofs.YtfodigfliiemeaaA
