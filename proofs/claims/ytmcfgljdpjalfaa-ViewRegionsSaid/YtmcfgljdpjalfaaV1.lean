/- The abstract layer, first text: abstract values, what they say of memory, and that a step keeps what they say. -/
import Derived.Calls
import Derived.Below
import Derived.Test.YtmcfgljdpjalfaaV0
import Derived.Maps.AppendAt
import Derived.Laws.OwnMore
set_option linter.unusedVariables false
set_option linter.unusedSimpArgs false
set_option linter.constructorNameAsVariable false
set_option linter.unusedSectionVars false
namespace Go.Proofs.YtmcfgljdpjalfaaV
open Go.RowKit

/-- Of a fixed slice: nil; old or frozen memory (ro); frozen memory of this call's own (fz). -/
inductive Tok where
  | nil
  | ro
  | fz

inductive AV where
  | undef
  | int (k : IntKind) (n : Int)
  | bool (b : Bool)
  | str (s : ByteArray)
  | agg (xs : List AV)
  | tup (xs : List AV)
  | sl (e sz : Nat) (t : Tok) (xs : List AV)
  | so (n off len : Nat)
  | nilp
  | ptr (b off : Nat)
  | elp (e sz : Nat) (t : Tok) (xs : List AV) (i off : Nat)
  | elo (n i off : Nat)
  | fn (f : Nat) (cap : List AV)
  | nilfn
  | ub
  | mo (n : Nat)
  | yld (l : Nat)

/-- The call's own memory: variables, and rows while they live (type and size of an element, contents). -/
structure St where
  box : List (Nat × List AV)
  row : List (Option (Nat × Nat × List AV))
def St.at (s : St) (n : Nat) : Option (Nat × Nat × List AV) := (s.row[n]?).join
def St.live (s : St) (n : Nat) : Bool := (s.at n).isSome
def St.empty : St := ⟨[], []⟩

structure Emb where
  bx : Nat → Nat
  rw : Nat → Option Nat

/-- A block that may be written. -/
def Mut (φ : Emb) (s : St) (g : Nat) : Prop := (∃ b, b < s.box.length ∧ φ.bx b = g) ∨ ∃ n, s.live n = true ∧ φ.rw n = some g

def CellsAt (w : World) (a : Addr) (cs : List Value) : Prop := ∀ j u, cs[j]? = some u → w.cell? (a.add j) = some u

/-- What memory says of the fixed slice v: n elements of type e, sz cells each, all cells cs. -/
def Mem (Im : Nat → Prop) (φ : Emb) (s : St) (B : Nat) (w : World) : Tok → Value → Nat → List Value → Prop
  | .nil, v, n, _ => v = .slice none 0 0 ∧ n = 0
  | .ro, v, n, cs => ∃ A c, v = .slice A n c ∧ n ≤ c ∧ (0 < n → ∃ a, A = some a ∧ a.block < w.heap.size ∧ ¬ Mut φ s a.block ∧ (a.block < B → Im a.block) ∧ CellsAt w a cs)
  | .fz, v, n, cs => ∃ A c, v = .slice A n c ∧ n ≤ c ∧ (0 < n → ∃ a, A = some a ∧ a.block < w.heap.size ∧ ¬ Mut φ s a.block ∧ B ≤ a.block ∧ CellsAt w a cs)

/-- Row n's block, and how great it is: cap elements. -/
def RowAt (φ : Emb) (w : World) (n e sz cap : Nat) : Prop := ∃ g cur, φ.rw n = some g ∧ w.heap[g]? = some (.cells cur e (0, 0)) ∧ cur.size = cap * sz ∧ cap ≤ maxLen
/-- A slice of row n. -/
def SoAt (φ : Emb) (w : World) (n e sz off len : Nat) (v : Value) : Prop :=
  0 < sz ∧ ((φ.rw n = none ∧ off = 0 ∧ len = 0 ∧ v = .slice none 0 0) ∨ ∃ g cap p, φ.rw n = some g ∧ RowAt φ w n e sz (off + cap) ∧ len ≤ cap ∧ v = .slice (some ⟨g, p, none⟩) len cap ∧ (0 < cap → p = off * sz) ∧ (off = 0 → p = 0))
/-- An entry of a map, as a pair. -/
def entV (m : MapEntry) : Value := .tuple #[m.key, m.val]

section
variable (Im : Nat → Prop) (φ : Emb) (s : St) (B : Nat) (w : World)
mutual
def rel : AV → Value → Prop
  | .undef, _ => True
  | .int k n, v => v = .int k n
  | .bool b, v => v = .bool b
  | .str x, v => v = .string x
  | .agg xs, v => ∃ cs : List Value, v = .agg cs.toArray ∧ relL xs cs ∧ ∀ u ∈ cs, u.oneCell' = true
  | .tup xs, v => ∃ cs : List Value, v = .tuple cs.toArray ∧ relL xs cs
  | .sl _ sz t xs, v => ∃ cs, relF sz xs cs ∧ Mem Im φ s B w t v xs.length cs
  | .so n off len, v => n < s.row.length ∧ ∀ e sz xs, s.at n = some (e, sz, xs) → off + len ≤ xs.length ∧ SoAt φ w n e sz off len v
  | .nilp, v => v = .pointer none
  | .ptr b off, v => b < s.box.length ∧ v = .pointer (some ⟨φ.bx b, off, none⟩)
  | .elp _ sz t xs i off, v => ∃ cs sv a m c, relF sz xs cs ∧ Mem Im φ s B w t sv xs.length cs ∧ sv = .slice (some a) m c ∧ i < xs.length ∧ v = .pointer (some (a.add (i * sz + off)))
  | .elo n i off, v => n < s.row.length ∧ ∀ e sz xs, s.at n = some (e, sz, xs) → 0 < sz ∧ i < xs.length ∧ ∃ g, φ.rw n = some g ∧ v = .pointer (some ⟨g, i * sz + off, none⟩)
  | .fn f cap, v => ∃ cs : List Value, v = .func (.func f) #[] cs.toArray ∧ relL cap cs
  | .nilfn, v => v = .nilFunc
  | .ub, v => ∃ b, v = .bool b
  | .mo n, v => n < s.row.length ∧ ∀ e sz xs, s.at n = some (e, sz, xs) → sz = 0 ∧ ∃ g, φ.rw n = some g ∧ v = .map (some g)
  | .yld l, v => v = .func (.yield l) #[] #[]
def relL : List AV → List Value → Prop
  | [], vs => vs = []
  | x :: xs, vs => ∃ v r, vs = v :: r ∧ rel x v ∧ relL xs r
def relF (sz : Nat) : List AV → List Value → Prop
  | [], cs => cs = []
  | x :: xs, cs => ∃ v r, cs = v.cells.toList ++ r ∧ v.cells.size = sz ∧ (∀ u ∈ v.cells.toList, u.oneCell' = true) ∧ rel x v ∧ relF sz xs r
end
end

/-- From one state to a later one: a row that lives on has its block, its type and its size; what nobody may write is as it was, and stays so. -/
structure Step (B : Nat) (φ : Emb) (s : St) (w : World) (φ' : Emb) (s' : St) (w' : World) : Prop where
  nrow : s.row.length ≤ s'.row.length
  nbox : s.box.length ≤ s'.box.length
  bx : ∀ b, b < s.box.length → φ'.bx b = φ.bx b
  rw : ∀ n e sz xs', n < s.row.length → s'.at n = some (e, sz, xs') → (∃ xs, s.at n = some (e, sz, xs) ∧ (0 < sz → xs'.length = xs.length)) ∧ φ'.rw n = φ.rw n ∧ ∀ cap, RowAt φ w n e sz cap → RowAt φ' w' n e sz cap
  im : ∀ g, g < w.heap.size → ¬ Mut φ s g → w'.heap[g]? = w.heap[g]? ∧ ¬ Mut φ' s' g
  below : Below B w w'
  drawn : w.drawn ≤ w'.drawn

theorem Step.refl (B : Nat) (φ : Emb) (s : St) (w : World) : Step B φ s w φ s w :=
  ⟨Nat.le_refl _, Nat.le_refl _, fun _ _ => rfl, fun _ _ _ xs' _ h => ⟨⟨xs', h, fun _ => rfl⟩, rfl, fun _ h => h⟩, fun _ _ h => ⟨rfl, h⟩, Below.refl _ _, Nat.le_refl _⟩

theorem Step.trans {B : Nat} {φ φ1 φ2 : Emb} {s s1 s2 : St} {w w1 w2 : World} (h : Step B φ s w φ1 s1 w1) (k : Step B φ1 s1 w1 φ2 s2 w2) : Step B φ s w φ2 s2 w2 where
  nrow := Nat.le_trans h.nrow k.nrow
  nbox := Nat.le_trans h.nbox k.nbox
  bx b hb := (k.bx b (Nat.lt_of_lt_of_le hb h.nbox)).trans (h.bx b hb)
  rw n e sz xs' hn hl := by
    obtain ⟨⟨xs1, h1, h2⟩, h3, h4⟩ := k.rw n e sz xs' (Nat.lt_of_lt_of_le hn h.nrow) hl
    obtain ⟨⟨xs, k1, k2⟩, k3, k4⟩ := h.rw n e sz xs1 hn h1
    exact ⟨⟨xs, k1, fun h0 => (h2 h0).trans (k2 h0)⟩, h3.trans k3, fun cap hc => h4 cap (k4 cap hc)⟩
  im g hg hm := by
    obtain ⟨h1, h2⟩ := h.im g hg hm
    obtain ⟨h3, h4⟩ := k.im g (Nat.lt_of_lt_of_le hg h.below.size) h2
    exact ⟨h3.trans h1, h4⟩
  below := h.below.trans k.below
  drawn := Nat.le_trans h.drawn k.drawn

theorem CellsAt.of_block {w w' : World} {a : Addr} {cs : List Value} (h : CellsAt w a cs) (hb : w'.heap[a.block]? = w.heap[a.block]?) : CellsAt w' a cs := by
  intro j u hj
  have ha : (a.add j).block = a.block := by unfold Addr.add; split <;> rfl
  have hc : w'.cell? (a.add j) = w.cell? (a.add j) := World.cell?_of_block (w := w) (by rw [ha]; exact hb)
  rw [hc]
  exact h j u hj

theorem Mem.step {Im : Nat → Prop} {φ φ' : Emb} {s s' : St} {B : Nat} {w w' : World} (h : Step B φ s w φ' s' w') {t : Tok} {v : Value} {n : Nat} {cs : List Value}
    (hm : Mem Im φ s B w t v n cs) : Mem Im φ' s' B w' t v n cs := by
  cases t with
  | nil => exact hm
  | ro =>
    obtain ⟨A, c, rfl, hc, hr⟩ := hm
    refine ⟨A, c, rfl, hc, fun hn => ?_⟩
    obtain ⟨a, rfl, hlt, hmu, him, hcs⟩ := hr hn
    obtain ⟨h1, h2⟩ := h.im _ hlt hmu
    exact ⟨a, rfl, Nat.lt_of_lt_of_le hlt h.below.size, h2, him, hcs.of_block h1⟩
  | fz =>
    obtain ⟨A, c, rfl, hc, hr⟩ := hm
    refine ⟨A, c, rfl, hc, fun hn => ?_⟩
    obtain ⟨a, rfl, hlt, hmu, him, hcs⟩ := hr hn
    obtain ⟨h1, h2⟩ := h.im _ hlt hmu
    exact ⟨a, rfl, Nat.lt_of_lt_of_le hlt h.below.size, h2, him, hcs.of_block h1⟩
theorem SoAt.step {φ φ' : Emb} {s s' : St} {B : Nat} {w w' : World} (h : Step B φ s w φ' s' w') {n e sz off len : Nat} {v : Value} {xs' : List AV} (hn : n < s.row.length) (hl : s'.at n = some (e, sz, xs')) (hv : SoAt φ w n e sz off len v) : SoAt φ' w' n e sz off len v := by
  obtain ⟨_, h3, h4⟩ := h.rw n e sz xs' hn hl
  refine ⟨hv.1, ?_⟩
  rcases hv.2 with ⟨h1, h2⟩ | ⟨g, cap, p, h1, h2, h5⟩
  · exact .inl ⟨h3.trans h1, h2⟩
  · exact .inr ⟨g, cap, p, h3.trans h1, h4 _ h2, h5⟩

section
variable {Im : Nat → Prop} {φ φ' : Emb} {s s' : St} {B : Nat} {w w' : World}
mutual
theorem rel_step (h : Step B φ s w φ' s' w') : ∀ (x : AV) (v : Value), rel Im φ s B w x v → rel Im φ' s' B w' x v
  | .undef, _ => fun _ => by simp [rel]
  | .int k n, v => fun hr => by simpa [rel] using hr
  | .bool b, v => fun hr => by simpa [rel] using hr
  | .str x, v => fun hr => by simpa [rel] using hr
  | .agg xs, v => fun hr => by
    simp only [rel] at hr ⊢
    obtain ⟨cs, h1, h2, h3⟩ := hr
    exact ⟨cs, h1, relL_step h xs cs h2, h3⟩
  | .tup xs, v => fun hr => by
    simp only [rel] at hr ⊢
    obtain ⟨cs, h1, h2⟩ := hr
    exact ⟨cs, h1, relL_step h xs cs h2⟩
  | .sl e sz t xs, v => fun hr => by
    simp only [rel] at hr ⊢
    obtain ⟨cs, h1, h2⟩ := hr
    exact ⟨cs, relF_step h sz xs cs h1, h2.step h⟩
  | .so n off len, v => fun hr => by
    simp only [rel] at hr ⊢
    refine ⟨Nat.lt_of_lt_of_le hr.1 h.nrow, fun e sz xs' hl => ?_⟩
    obtain ⟨⟨xs, h1, h2⟩, _⟩ := h.rw n e sz xs' hr.1 hl
    obtain ⟨h3, h4⟩ := hr.2 e sz xs h1
    have := h2 h4.1
    exact ⟨by omega, h4.step h hr.1 hl⟩
  | .elo n i off, v => fun hr => by
    simp only [rel] at hr ⊢
    refine ⟨Nat.lt_of_lt_of_le hr.1 h.nrow, fun e sz xs' hl => ?_⟩
    obtain ⟨⟨xs, h1, h2⟩, h5, _⟩ := h.rw n e sz xs' hr.1 hl
    obtain ⟨h0, h3, g, h4, h6⟩ := hr.2 e sz xs h1
    have := h2 h0
    exact ⟨h0, by omega, g, h5.trans h4, h6⟩
  | .nilp, v => fun hr => by simpa [rel] using hr
  | .ptr b off, v => fun hr => by
    simp only [rel] at hr ⊢
    exact ⟨Nat.lt_of_lt_of_le hr.1 h.nbox, by rw [h.bx b hr.1]; exact hr.2⟩
  | .elp e sz t xs i off, v => fun hr => by
    simp only [rel] at hr ⊢
    obtain ⟨cs, sv, a, m, c, h1, h2, h3⟩ := hr
    exact ⟨cs, sv, a, m, c, relF_step h sz xs cs h1, h2.step h, h3⟩
  | .fn f cap, v => fun hr => by
    simp only [rel] at hr ⊢
    obtain ⟨cs, h1, h2⟩ := hr
    exact ⟨cs, h1, relL_step h cap cs h2⟩
  | .nilfn, v => fun hr => by simpa [rel] using hr
  | .ub, v => fun hr => by simpa [rel] using hr
  | .mo n, v => fun hr => by
    simp only [rel] at hr ⊢
    refine ⟨Nat.lt_of_lt_of_le hr.1 h.nrow, fun e sz xs' hl => ?_⟩
    obtain ⟨⟨xs, h1, h2⟩, h5, _⟩ := h.rw n e sz xs' hr.1 hl
    obtain ⟨h3, g, h4, h6⟩ := hr.2 e sz xs h1
    exact ⟨h3, g, h5.trans h4, h6⟩
  | .yld l, v => fun hr => by simpa [rel] using hr
theorem relL_step (h : Step B φ s w φ' s' w') : ∀ (xs : List AV) (vs : List Value), relL Im φ s B w xs vs → relL Im φ' s' B w' xs vs
  | [], vs => fun hr => by simpa [relL] using hr
  | x :: xs, vs => fun hr => by
    simp only [relL] at hr ⊢
    obtain ⟨v, r, h1, h2, h3⟩ := hr
    exact ⟨v, r, h1, rel_step h x v h2, relL_step h xs r h3⟩
theorem relF_step (h : Step B φ s w φ' s' w') (sz : Nat) : ∀ (xs : List AV) (cs : List Value), relF Im φ s B w sz xs cs → relF Im φ' s' B w' sz xs cs
  | [], cs => fun hr => by simpa [relF] using hr
  | x :: xs, cs => fun hr => by
    simp only [relF] at hr ⊢
    obtain ⟨v, r, h1, h2, h3, h4, h5⟩ := hr
    exact ⟨v, r, h1, h2, h3, rel_step h x v h4, relF_step h sz xs r h5⟩
end
end

/-- What the invariant says of a row (a row with elements without cells is a map: its entries). -/
def RowOk (Im : Nat → Prop) (φ : Emb) (s : St) (B : Nat) (w w1 : World) (blk : Option Nat) (e sz : Nat) (xs : List AV) : Prop :=
  (0 < sz ∧ ((blk = none ∧ xs = []) ∨ ∃ g cap cur cs, blk = some g ∧ w1.heap[g]? = some (.cells cur e (0, 0)) ∧ cur.size = cap * sz ∧ cap ≤ maxLen ∧ xs.length ≤ cap ∧ relF Im φ s B w sz xs cs ∧ cur.toList.take (xs.length * sz) = cs)) ∨
  (sz = 0 ∧ ∃ g ms clock, blk = some g ∧ w1.heap[g]? = some (.map ms clock) ∧ (clock = ms.size ∧ ∀ i (m : MapEntry), ms[i]? = some m → m.born = i) ∧ relL Im φ s B w xs (ms.toList.map entV))
theorem RowOk.pos {Im : Nat → Prop} {φ : Emb} {s : St} {B : Nat} {w w1 : World} {blk : Option Nat} {e sz : Nat} {xs : List AV} (h : RowOk Im φ s B w w1 blk e sz xs) (h0 : 0 < sz) :
    0 < sz ∧ ((blk = none ∧ xs = []) ∨ ∃ g cap cur cs, blk = some g ∧ w1.heap[g]? = some (.cells cur e (0, 0)) ∧ cur.size = cap * sz ∧ cap ≤ maxLen ∧ xs.length ≤ cap ∧ relF Im φ s B w sz xs cs ∧ cur.toList.take (xs.length * sz) = cs) := by
  rcases h with h | h
  · exact h
  · omega
theorem RowOk.mapOk {Im : Nat → Prop} {φ : Emb} {s : St} {B : Nat} {w w1 : World} {blk : Option Nat} {e : Nat} {xs : List AV} (h : RowOk Im φ s B w w1 blk e 0 xs) :
    ∃ g ms clock, blk = some g ∧ w1.heap[g]? = some (.map ms clock) ∧ (clock = ms.size ∧ ∀ i (m : MapEntry), ms[i]? = some m → m.born = i) ∧ relL Im φ s B w xs (ms.toList.map entV) := by
  rcases h with h | h
  · omega
  · exact h.2
structure Inv (Im : Nat → Prop) (φ : Emb) (s : St) (B : Nat) (w : World) : Prop where
  hB : B ≤ w.heap.size
  bnd : ∀ g, Mut φ s g → B ≤ g ∧ g < w.heap.size
  bxinj : ∀ b b', b < s.box.length → b' < s.box.length → φ.bx b = φ.bx b' → b = b'
  rwinj : ∀ m n g, s.live m = true → s.live n = true → φ.rw m = some g → φ.rw n = some g → m = n
  bxrw : ∀ b n, b < s.box.length → s.live n = true → φ.rw n ≠ some (φ.bx b)
  cells : ∀ b ty cs, s.box[b]? = some (ty, cs) → ∃ vs : List Value, w.heap[φ.bx b]? = some (.cells vs.toArray ty (0, 0)) ∧ relL Im φ s B w cs vs ∧ ∀ u ∈ vs, u.oneCell' = true
  rows : ∀ n e sz xs, s.at n = some (e, sz, xs) → RowOk Im φ s B w w (φ.rw n) e sz xs

/-! ### A block that is neither cells nor a map (a loop's record): whatever it becomes, nothing told turns -/
structure Off (l : Nat) (w w' : World) : Prop where
  size : w'.heap.size = w.heap.size
  oth : ∀ g, g ≠ l → w'.heap[g]? = w.heap[g]?
  ncell : ∀ cs t f, w.heap[l]? ≠ some (.cells cs t f)
  nmap : ∀ ms c, w.heap[l]? ≠ some (.map ms c)
  os : w'.os = w.os
  tape : w'.tape = w.tape
  output : w'.output = w.output
  drawn : w'.drawn = w.drawn
section
variable {Im : Nat → Prop} {φ : Emb} {s : St} {B l : Nat} {w w' : World}
theorem CellsAt.off (h : Off l w w') {a : Addr} {cs : List Value} (hc : CellsAt w a cs) : CellsAt w' a cs := by
  intro j u hj
  have := hc j u hj
  have hne : (a.add j).block ≠ l := by
    intro e
    unfold World.cell? at this
    rw [e] at this
    split at this
    · rename_i hh; exact h.ncell _ _ _ hh
    · cases this
  unfold World.cell? at this ⊢
  rw [h.oth _ hne]
  exact this
theorem Mem.off (h : Off l w w') {t : Tok} {v : Value} {n : Nat} {cs : List Value} (hm : Mem Im φ s B w t v n cs) : Mem Im φ s B w' t v n cs := by
  cases t with
  | nil => exact hm
  | ro =>
    obtain ⟨A, c, rfl, hc, hr⟩ := hm
    refine ⟨A, c, rfl, hc, fun hn => ?_⟩
    obtain ⟨a, rfl, hlt, hmu, him, hcs⟩ := hr hn
    exact ⟨a, rfl, by rw [h.size]; exact hlt, hmu, him, hcs.off h⟩
  | fz =>
    obtain ⟨A, c, rfl, hc, hr⟩ := hm
    refine ⟨A, c, rfl, hc, fun hn => ?_⟩
    obtain ⟨a, rfl, hlt, hmu, him, hcs⟩ := hr hn
    exact ⟨a, rfl, by rw [h.size]; exact hlt, hmu, him, hcs.off h⟩
theorem SoAt.off (h : Off l w w') {n e sz off len : Nat} {v : Value} (hv : SoAt φ w n e sz off len v) : SoAt φ w' n e sz off len v := by
  refine ⟨hv.1, ?_⟩
  rcases hv.2 with h1 | ⟨g, cap, p, h1, ⟨g', cur, h2, h3, h4⟩, h5⟩
  · exact .inl h1
  · exact .inr ⟨g, cap, p, h1, ⟨g', cur, h2, by rw [h.oth g' (fun e => h.ncell _ _ _ (e ▸ h3))]; exact h3, h4⟩, h5⟩
mutual
theorem rel_off (h : Off l w w') : ∀ (x : AV) (v : Value), rel Im φ s B w x v → rel Im φ s B w' x v
  | .undef, v => fun _ => by simp [rel]
  | .int k n, v => fun hr => by simpa [rel] using hr
  | .bool b, v => fun hr => by simpa [rel] using hr
  | .str x, v => fun hr => by simpa [rel] using hr
  | .agg xs, v => fun hr => by
    simp only [rel] at hr ⊢
    obtain ⟨cs, h1, h2, h3⟩ := hr
    exact ⟨cs, h1, relL_off h xs cs h2, h3⟩
  | .tup xs, v => fun hr => by
    simp only [rel] at hr ⊢
    obtain ⟨cs, h1, h2⟩ := hr
    exact ⟨cs, h1, relL_off h xs cs h2⟩
  | .sl e sz t xs, v => fun hr => by
    simp only [rel] at hr ⊢
    obtain ⟨cs, h1, h2⟩ := hr
    exact ⟨cs, relF_off h sz xs cs h1, h2.off h⟩
  | .so n off len, v => fun hr => by
    simp only [rel] at hr ⊢
    exact ⟨hr.1, fun e sz xs hl => ⟨(hr.2 e sz xs hl).1, (hr.2 e sz xs hl).2.off h⟩⟩
  | .elo n i off, v => fun hr => by simpa [rel] using hr
  | .nilp, v => fun hr => by simpa [rel] using hr
  | .ptr b off, v => fun hr => by simpa [rel] using hr
  | .elp e sz t xs i off, v => fun hr => by
    simp only [rel] at hr ⊢
    obtain ⟨cs, sv, a, m, c, h1, h2, h3⟩ := hr
    exact ⟨cs, sv, a, m, c, relF_off h sz xs cs h1, h2.off h, h3⟩
  | .fn f cap, v => fun hr => by
    simp only [rel] at hr ⊢
    obtain ⟨cs, h1, h2⟩ := hr
    exact ⟨cs, h1, relL_off h cap cs h2⟩
  | .nilfn, v => fun hr => by simpa [rel] using hr
  | .ub, v => fun hr => by simpa [rel] using hr
  | .mo n, v => fun hr => by simpa [rel] using hr
  | .yld l, v => fun hr => by simpa [rel] using hr
theorem relL_off (h : Off l w w') : ∀ (xs : List AV) (vs : List Value), relL Im φ s B w xs vs → relL Im φ s B w' xs vs
  | [], vs => fun hr => by simpa [relL] using hr
  | x :: xs, vs => fun hr => by
    simp only [relL] at hr ⊢
    obtain ⟨v, r, h1, h2, h3⟩ := hr
    exact ⟨v, r, h1, rel_off h x v h2, relL_off h xs r h3⟩
theorem relF_off (h : Off l w w') (sz : Nat) : ∀ (xs : List AV) (cs : List Value), relF Im φ s B w sz xs cs → relF Im φ s B w' sz xs cs
  | [], cs => fun hr => by simpa [relF] using hr
  | x :: xs, cs => fun hr => by
    simp only [relF] at hr ⊢
    obtain ⟨v, r, h1, h2, h3, h4, h5⟩ := hr
    exact ⟨v, r, h1, h2, h3, rel_off h x v h4, relF_off h sz xs r h5⟩
end
theorem Inv.off (hI : Inv Im φ s B w) (h : Off l w w') : Inv Im φ s B w' where
  hB := by rw [h.size]; exact hI.hB
  bnd g hg := by rw [h.size]; exact hI.bnd g hg
  bxinj := hI.bxinj
  rwinj := hI.rwinj
  bxrw := hI.bxrw
  cells b ty cs hb := by
    obtain ⟨vs, h1, h2, h3⟩ := hI.cells b ty cs hb
    exact ⟨vs, by rw [h.oth _ (fun e => h.ncell _ _ _ (e ▸ h1))]; exact h1, relL_off h _ _ h2, h3⟩
  rows n e sz xs hl := by
    rcases hI.rows n e sz xs hl with ⟨h0, h1 | ⟨g, cap, cur, cs, h1, h2, h3, h4, h5, h6, h7⟩⟩ | ⟨h0, g, ms, clock, h1, h2, hb, h3⟩
    · exact .inl ⟨h0, .inl h1⟩
    · exact .inl ⟨h0, .inr ⟨g, cap, cur, cs, h1, by rw [h.oth _ (fun e => h.ncell _ _ _ (e ▸ h2))]; exact h2, h3, h4, h5, relF_off h _ _ _ h6, h7⟩⟩
    · exact .inr ⟨h0, g, ms, clock, h1, by rw [h.oth _ (fun e => h.nmap _ _ (e ▸ h2))]; exact h2, hb, relL_off h _ _ h3⟩
/-- A step between two turns of such a block, where it is in the end what it was. -/
theorem Step.between {φ' : Emb} {s' : St} {w1 w2 w3 : World} (h1 : Off l w w1) (hl : B ≤ l) (hs : Step B φ s w1 φ' s' w2) (h2 : Off l w2 w3) (he : w3.heap[l]? = w.heap[l]?) : Step B φ s w φ' s' w3 where
  nrow := hs.nrow
  nbox := hs.nbox
  bx := hs.bx
  rw n e sz xs' hn ha := by
    obtain ⟨k1, k2, k3⟩ := hs.rw n e sz xs' hn ha
    refine ⟨k1, k2, fun cap hc => ?_⟩
    obtain ⟨g, cur, j1, j2, j3⟩ := hc
    obtain ⟨g', cur', i1, i2, i3⟩ := k3 cap ⟨g, cur, j1, by rw [h1.oth g (fun e => h1.ncell _ _ _ (e ▸ j2))]; exact j2, j3⟩
    exact ⟨g', cur', i1, by rw [h2.oth g' (fun e => h2.ncell _ _ _ (e ▸ i2))]; exact i2, i3⟩
  im g hg hm := by
    obtain ⟨k1, k2⟩ := hs.im g (by rw [h1.size]; exact hg) hm
    refine ⟨?_, k2⟩
    by_cases e : g = l
    · rw [e]; exact he
    · rw [h2.oth g e, k1, h1.oth g e]
  below := ⟨h2.os.trans (hs.below.os.trans h1.os), h2.tape.trans (hs.below.tape.trans h1.tape), h2.output.trans (hs.below.output.trans h1.output), by rw [h2.size, ← h1.size]; exact hs.below.size, fun g hg => by
    have e : g ≠ l := by omega
    rw [h2.oth g e, hs.below.block g hg, h1.oth g e]⟩
  drawn := by rw [h2.drawn, ← h1.drawn]; exact hs.drawn
end

theorem relL_len {Im : Nat → Prop} {φ : Emb} {s : St} {B : Nat} {w : World} : ∀ (xs : List AV) (vs : List Value), relL Im φ s B w xs vs → vs.length = xs.length
  | [], vs, h => by simp only [relL] at h; subst h; rfl
  | x :: xs, vs, h => by
    simp only [relL] at h
    obtain ⟨v, r, rfl, _, h⟩ := h
    simp [relL_len xs r h]
theorem relL_get {Im : Nat → Prop} {φ : Emb} {s : St} {B : Nat} {w : World} : ∀ (xs : List AV) (vs : List Value), relL Im φ s B w xs vs → ∀ (i : Nat) (x : AV), xs[i]? = some x → ∃ v, vs[i]? = some v ∧ rel Im φ s B w x v
  | [], vs, h, i, x, hx => by simp at hx
  | y :: xs, vs, h, i, x, hx => by
    simp only [relL] at h
    obtain ⟨v, r, rfl, h1, h⟩ := h
    cases i with
    | zero => simp at hx; subst hx; exact ⟨v, rfl, h1⟩
    | succ i => exact relL_get xs r h i x (by simpa using hx)
theorem relL_append {Im : Nat → Prop} {φ : Emb} {s : St} {B : Nat} {w : World} : ∀ (xs ys : List AV) (vs us : List Value), relL Im φ s B w xs vs → relL Im φ s B w ys us → relL Im φ s B w (xs ++ ys) (vs ++ us)
  | [], ys, vs, us, h, h' => by simp only [relL] at h; subst h; exact h'
  | x :: xs, ys, vs, us, h, h' => by
    simp only [relL] at h
    obtain ⟨v, r, rfl, h1, h⟩ := h
    simp only [List.cons_append, relL]
    exact ⟨v, _, rfl, h1, relL_append xs ys r us h h'⟩
theorem relL_take {Im : Nat → Prop} {φ : Emb} {s : St} {B : Nat} {w : World} : ∀ (n : Nat) (xs : List AV) (vs : List Value), relL Im φ s B w xs vs → relL Im φ s B w (xs.take n) (vs.take n)
  | 0, xs, vs, h => by simp [relL]
  | n + 1, [], vs, h => by simp only [relL] at h; subst h; simp [relL]
  | n + 1, x :: xs, vs, h => by
    simp only [relL] at h
    obtain ⟨v, r, rfl, h1, h⟩ := h
    simp only [List.take_succ_cons, relL]
    exact ⟨v, _, rfl, h1, relL_take n xs r h⟩
theorem relL_drop {Im : Nat → Prop} {φ : Emb} {s : St} {B : Nat} {w : World} : ∀ (n : Nat) (xs : List AV) (vs : List Value), relL Im φ s B w xs vs → relL Im φ s B w (xs.drop n) (vs.drop n)
  | 0, xs, vs, h => by simpa using h
  | n + 1, [], vs, h => by simp only [relL] at h; subst h; simp [relL]
  | n + 1, x :: xs, vs, h => by
    simp only [relL] at h
    obtain ⟨v, r, rfl, h1, h⟩ := h
    simpa using relL_drop n xs r h
theorem relF_len {Im : Nat → Prop} {φ : Emb} {s : St} {B : Nat} {w : World} {sz : Nat} : ∀ (xs : List AV) (cs : List Value), relF Im φ s B w sz xs cs → cs.length = xs.length * sz
  | [], cs, h => by simp only [relF] at h; subst h; simp
  | x :: xs, cs, h => by
    simp only [relF] at h
    obtain ⟨v, r, rfl, h1, _, _, h⟩ := h
    simp [relF_len xs r h, h1, Nat.add_mul, Nat.add_comm]
theorem relF_one {Im : Nat → Prop} {φ : Emb} {s : St} {B : Nat} {w : World} {sz : Nat} : ∀ (xs : List AV) (cs : List Value), relF Im φ s B w sz xs cs → ∀ u ∈ cs, u.oneCell' = true
  | [], cs, h => by simp only [relF] at h; subst h; simp
  | x :: xs, cs, h => by
    simp only [relF] at h
    obtain ⟨v, r, rfl, _, h1, _, h⟩ := h
    intro u hu
    rcases List.mem_append.1 hu with hu | hu
    · exact h1 u hu
    · exact relF_one xs r h u hu
theorem relF_append {Im : Nat → Prop} {φ : Emb} {s : St} {B : Nat} {w : World} {sz : Nat} : ∀ (xs ys : List AV) (cs ds : List Value), relF Im φ s B w sz xs cs → relF Im φ s B w sz ys ds → relF Im φ s B w sz (xs ++ ys) (cs ++ ds)
  | [], ys, cs, ds, h, h' => by simp only [relF] at h; subst h; exact h'
  | x :: xs, ys, cs, ds, h, h' => by
    simp only [relF] at h
    obtain ⟨v, r, rfl, h1, h2, h3, h⟩ := h
    simp only [List.cons_append, relF]
    exact ⟨v, r ++ ds, by simp, h1, h2, h3, relF_append xs ys r ds h h'⟩
/-- Element i: its value, and its cells among all. -/
theorem relF_get {Im : Nat → Prop} {φ : Emb} {s : St} {B : Nat} {w : World} {sz : Nat} : ∀ (xs : List AV) (cs : List Value), relF Im φ s B w sz xs cs → ∀ (i : Nat) (x : AV), xs[i]? = some x →
    ∃ v, v.cells.size = sz ∧ (∀ u ∈ v.cells.toList, u.oneCell' = true) ∧ rel Im φ s B w x v ∧ ∀ j u, v.cells[j]? = some u → cs[i * sz + j]? = some u
  | [], cs, h, i, x, hx => by simp at hx
  | y :: xs, cs, h, i, x, hx => by
    simp only [relF] at h
    obtain ⟨v, r, rfl, h1, h2, h3, h⟩ := h
    cases i with
    | zero =>
      simp at hx; subst hx
      refine ⟨v, h1, h2, h3, fun j u hj => ?_⟩
      have hlt : j < v.cells.toList.length := by have := (Array.getElem?_eq_some_iff.1 hj).1; simpa using this
      rw [Nat.zero_mul, Nat.zero_add, List.getElem?_append_left hlt]
      simpa using hj
    | succ i =>
      obtain ⟨v', a1, a2, a3, a4⟩ := relF_get xs r h i x (by simpa using hx)
      refine ⟨v', a1, a2, a3, fun j u hj => ?_⟩
      have := a4 j u hj
      rw [List.getElem?_append_right (by simp [h1, Nat.add_mul]; omega)]
      rw [← this]
      congr 1
      simp [h1, Nat.add_mul]
      omega
theorem relF_take {Im : Nat → Prop} {φ : Emb} {s : St} {B : Nat} {w : World} {sz : Nat} : ∀ (n : Nat) (xs : List AV) (cs : List Value), relF Im φ s B w sz xs cs → relF Im φ s B w sz (xs.take n) (cs.take (n * sz))
  | 0, xs, cs, h => by simp [relF]
  | n + 1, [], cs, h => by simp only [relF] at h; subst h; simp [relF]
  | n + 1, x :: xs, cs, h => by
    simp only [relF] at h
    obtain ⟨v, r, rfl, h1, h2, h3, h⟩ := h
    simp only [List.take_succ_cons, relF]
    have hl : v.cells.toList.length = sz := by simpa using h1
    refine ⟨v, r.take (n * sz), ?_, h1, h2, h3, relF_take n xs r h⟩
    rw [Nat.add_mul, Nat.one_mul, Nat.add_comm, ← hl, List.take_append, List.take_of_length_le (by omega)]
    congr 2
    omega
theorem relF_drop {Im : Nat → Prop} {φ : Emb} {s : St} {B : Nat} {w : World} {sz : Nat} : ∀ (n : Nat) (xs : List AV) (cs : List Value), relF Im φ s B w sz xs cs → relF Im φ s B w sz (xs.drop n) (cs.drop (n * sz))
  | 0, xs, cs, h => by simpa using h
  | n + 1, [], cs, h => by simp only [relF] at h; subst h; simp [relF]
  | n + 1, x :: xs, cs, h => by
    simp only [relF] at h
    obtain ⟨v, r, rfl, h1, h2, h3, h⟩ := h
    have hl : v.cells.toList.length = sz := by simpa using h1
    have hd : (v.cells.toList ++ r).drop ((n + 1) * sz) = r.drop (n * sz) := by
      rw [List.drop_append, List.drop_of_length_le (by rw [hl, Nat.add_mul]; omega), List.nil_append, hl, Nat.add_mul]
      congr 1
      omega
    rw [hd]
    simpa using relF_drop n xs r h

/-! ### To say less -/
mutual
/-- y says less of a value than x. -/
def AV.le : AV → AV → Prop
  | .agg xs, y => match y with | .agg ys => AV.leL xs ys | _ => False
  | .tup xs, y => match y with | .tup ys => AV.leL xs ys | _ => False
  | .sl e sz t xs, y => match y with | .sl e' sz' t' ys => (e = e' ∧ sz = sz' ∧ AV.leL xs ys ∧ (t = t' ∨ t = .nil ∨ (t = .fz ∧ t' = .ro))) ∨ (t = .nil ∧ xs = [] ∧ ys = []) | _ => False
  | .int k n, y => match y with | .int k' m => k = k' ∧ n = m | _ => False
  | .bool b, y => match y with | .bool c => b = c | _ => False
  | .str a, y => match y with | .str b => a = b | _ => False
  | .undef, y => y = .undef
  | .nilp, y => y = .nilp
  | .ptr b o, y => y = .ptr b o
  | .elp e sz t xs i o, y => y = .elp e sz t xs i o
  | .so n o l, y => y = .so n o l
  | .elo n i o, y => y = .elo n i o
  | .fn f cap, y => y = .fn f cap
  | .nilfn, y => y = .nilfn
  | .ub, y => y = .ub
  | .mo n, y => y = .mo n
  | .yld l, y => y = .yld l
def AV.leL : List AV → List AV → Prop
  | [], ys => ys = []
  | x :: xs, ys => match ys with | y :: ys => x.le y ∧ AV.leL xs ys | [] => False
end
mutual
theorem le_refl : ∀ x : AV, x.le x
  | .agg xs => by simp only [AV.le]; exact leL_refl xs
  | .tup xs => by simp only [AV.le]; exact leL_refl xs
  | .sl e sz t xs => by simp [AV.le, leL_refl xs]
  | .int _ _ => by simp [AV.le]
  | .bool _ => by simp [AV.le]
  | .str _ => by simp [AV.le]
  | .undef => by simp [AV.le]
  | .nilp => by simp [AV.le]
  | .ptr _ _ => by simp [AV.le]
  | .elp _ _ _ _ _ _ => by simp [AV.le]
  | .so _ _ _ => by simp [AV.le]
  | .elo _ _ _ => by simp [AV.le]
  | .fn _ _ => by simp [AV.le]
  | .nilfn => by simp [AV.le]
  | .ub => by simp [AV.le]
  | .mo _ => by simp [AV.le]
  | .yld _ => by simp [AV.le]
theorem leL_refl : ∀ xs : List AV, AV.leL xs xs
  | [] => by simp [AV.leL]
  | x :: xs => by simp only [AV.leL]; exact ⟨le_refl x, leL_refl xs⟩
end
theorem leL_len : ∀ (xs ys : List AV), AV.leL xs ys → ys.length = xs.length
  | [], ys, h => by simp only [AV.leL] at h; subst h; rfl
  | x :: xs, ys, h => by
    cases ys with
    | nil => simp [AV.leL] at h
    | cons y ys => simp only [AV.leL] at h; simp [leL_len xs ys h.2]
section
variable {Im : Nat → Prop} {φ : Emb} {s : St} {B : Nat} {w : World}
theorem Mem.of_nil {t : Tok} {v : Value} {n : Nat} {cs cs' : List Value} (h : Mem Im φ s B w .nil v n cs) : Mem Im φ s B w t v n cs' := by
  obtain ⟨rfl, rfl⟩ := h
  cases t with
  | nil => exact ⟨rfl, rfl⟩
  | fz => exact ⟨_, _, rfl, Nat.le_refl _, fun h => absurd h (Nat.lt_irrefl _)⟩
  | ro => exact ⟨_, _, rfl, Nat.le_refl _, fun h => absurd h (Nat.lt_irrefl _)⟩
theorem Mem.of_fz {v : Value} {n : Nat} {cs : List Value} (h : Mem Im φ s B w .fz v n cs) : Mem Im φ s B w .ro v n cs := by
  obtain ⟨A, c, rfl, hc, h⟩ := h
  refine ⟨A, c, rfl, hc, fun hn => ?_⟩
  obtain ⟨a, h1, h2, h3, h4, h5⟩ := h hn
  exact ⟨a, h1, h2, h3, fun h => by omega, h5⟩
mutual
theorem le_ok : ∀ (x y : AV) (v : Value), x.le y → rel Im φ s B w x v → rel Im φ s B w y v
  | .agg xs, y, v => fun h hr => by
    cases y <;> simp only [AV.le] at h
    simp only [rel] at hr ⊢
    obtain ⟨cs, h1, h2, h3⟩ := hr
    exact ⟨cs, h1, leL_ok xs _ cs h h2, h3⟩
  | .tup xs, y, v => fun h hr => by
    cases y <;> simp only [AV.le] at h
    simp only [rel] at hr ⊢
    obtain ⟨cs, h1, h2⟩ := hr
    exact ⟨cs, h1, leL_ok xs _ cs h h2⟩
  | .sl e sz t xs, y, v => fun h hr => by
    cases y <;> simp only [AV.le] at h
    rename_i e' sz' t' ys
    simp only [rel] at hr ⊢
    obtain ⟨cs, h1, h2⟩ := hr
    rcases h with ⟨rfl, rfl, hl, h⟩ | ⟨rfl, rfl, rfl⟩
    · refine ⟨cs, leF_ok sz xs ys cs hl h1, ?_⟩
      rw [leL_len xs ys hl]
      rcases h with rfl | rfl | ⟨rfl, rfl⟩
      · exact h2
      · exact h2.of_nil
      · exact h2.of_fz
    · exact ⟨[], by simp [relF], h2.of_nil⟩
  | .int _ _, y, v => fun h hr => by cases y <;> simp only [AV.le] at h; obtain ⟨rfl, rfl⟩ := h; exact hr
  | .bool _, y, v => fun h hr => by cases y <;> simp only [AV.le] at h; subst h; exact hr
  | .str _, y, v => fun h hr => by cases y <;> simp only [AV.le] at h; subst h; exact hr
  | .undef, y, v => fun h hr => by simp only [AV.le] at h; subst h; exact hr
  | .nilp, y, v => fun h hr => by simp only [AV.le] at h; subst h; exact hr
  | .ptr _ _, y, v => fun h hr => by simp only [AV.le] at h; subst h; exact hr
  | .elp _ _ _ _ _ _, y, v => fun h hr => by simp only [AV.le] at h; subst h; exact hr
  | .so _ _ _, y, v => fun h hr => by simp only [AV.le] at h; subst h; exact hr
  | .elo _ _ _, y, v => fun h hr => by simp only [AV.le] at h; subst h; exact hr
  | .fn _ _, y, v => fun h hr => by simp only [AV.le] at h; subst h; exact hr
  | .nilfn, y, v => fun h hr => by simp only [AV.le] at h; subst h; exact hr
  | .ub, y, v => fun h hr => by simp only [AV.le] at h; subst h; exact hr
  | .mo _, y, v => fun h hr => by simp only [AV.le] at h; subst h; exact hr
  | .yld _, y, v => fun h hr => by simp only [AV.le] at h; subst h; exact hr
theorem leL_ok : ∀ (xs ys : List AV) (vs : List Value), AV.leL xs ys → relL Im φ s B w xs vs → relL Im φ s B w ys vs
  | [], ys, vs => fun h hr => by simp only [AV.leL] at h; subst h; exact hr
  | x :: xs, ys, vs => fun h hr => by
    cases ys with
    | nil => simp [AV.leL] at h
    | cons y ys =>
      simp only [AV.leL] at h
      simp only [relL] at hr ⊢
      obtain ⟨v, r, h1, h2, h3⟩ := hr
      exact ⟨v, r, h1, le_ok x y v h.1 h2, leL_ok xs ys r h.2 h3⟩
theorem leF_ok (sz : Nat) : ∀ (xs ys : List AV) (vs : List Value), AV.leL xs ys → relF Im φ s B w sz xs vs → relF Im φ s B w sz ys vs
  | [], ys, vs => fun h hr => by simp only [AV.leL] at h; subst h; exact hr
  | x :: xs, ys, vs => fun h hr => by
    cases ys with
    | nil => simp [AV.leL] at h
    | cons y ys =>
      simp only [AV.leL] at h
      simp only [relF] at hr ⊢
      obtain ⟨v, r, h1, h2, h3, h4, h5⟩ := hr
      exact ⟨v, r, h1, h2, h3, le_ok x y v h.1 h4, leF_ok sz xs ys r h.2 h5⟩
end
end
theorem le_agg (xs ys : List AV) : (AV.agg xs).le (.agg ys) = AV.leL xs ys := by simp [AV.le]
theorem le_tup (xs ys : List AV) : (AV.tup xs).le (.tup ys) = AV.leL xs ys := by simp [AV.le]
theorem le_int (k k' : IntKind) (n m : Int) : (AV.int k n).le (.int k' m) = (k = k' ∧ n = m) := by simp [AV.le]
theorem le_bool (b c : Bool) : (AV.bool b).le (.bool c) = (b = c) := by simp [AV.le]
theorem le_str (a b : ByteArray) : (AV.str a).le (.str b) = (a = b) := by simp [AV.le]
theorem le_nil (e sz e' sz' : Nat) (t : Tok) : (AV.sl e sz .nil []).le (.sl e' sz' t []) := by simp [AV.le]
theorem le_sl (e sz e' sz' : Nat) (t t' : Tok) (xs ys : List AV) : (AV.sl e sz t xs).le (.sl e' sz' t' ys) = ((e = e' ∧ sz = sz' ∧ AV.leL xs ys ∧ (t = t' ∨ t = .nil ∨ (t = .fz ∧ t' = .ro))) ∨ (t = .nil ∧ xs = [] ∧ ys = [])) := by simp [AV.le]
theorem leL_nil : AV.leL [] [] = True := by simp [AV.leL]
theorem leL_cons (x y : AV) (xs ys : List AV) : AV.leL (x :: xs) (y :: ys) = (x.le y ∧ AV.leL xs ys) := by simp [AV.leL]
end Go.Proofs.YtmcfgljdpjalfaaV
