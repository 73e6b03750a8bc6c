/- The abstract layer, thirteenth text: arguments opened. -/
import Derived.Test.YtmcfgljdpjalfaaV12
import Derived.Deep.Slices
import Derived.Deep.Strs
import Derived.ChangeSame
import Derived.ChangeArms
import Derived.ChangeOld
import Derived.Lib.SmallJoins
set_option linter.unusedVariables false
set_option linter.unusedSimpArgs false
set_option linter.constructorNameAsVariable false
set_option linter.unusedSectionVars false
namespace Go.Proofs.YtmcfgljdpjalfaaV
open Go.RowKit Go.ChangeShapes Go.WideShapes Go.Deep
/-- How a value that came in reads. -/
abbrev RL (w : World) : List AV → List Value → Prop := relL (fun _ => True) Emb.none St.empty w.heap.size w
/-- A type whose values, wherever they lie, read as enc. -/
def Opens {α : Type} (P : Program) (t : Nat) (enc : α → List AV) (ok : α → Prop) : Prop :=
  ∀ (H : Type) (en : TypeId × Value → H) (w : World) (spare : Nat → Bool) (held : Bool) (fuel : Nat) (cs : List Value) (x : DataW H × List MemPlace), DataW.trod en P w 0 spare held fuel t cs = some x →
    ∃ a, ok a ∧ RL w (enc a) cs ∧ ∀ u ∈ cs, u.oneCell' = true
theorem Opens.map {α β : Type} {P : Program} {t : Nat} {enc : α → List AV} {ok : α → Prop} (h : Opens P t enc ok) (f : α → β) (enc' : β → List AV) (ok' : β → Prop) (he : ∀ a, enc' (f a) = enc a) (hk : ∀ a, ok a → ok' (f a)) : Opens P t enc' ok' := by
  intro H en w spare held fuel cs x hx
  obtain ⟨a, h1, h2, h3⟩ := h H en w spare held fuel cs x hx
  exact ⟨f a, hk a h1, by rw [he]; exact h2, h3⟩
theorem relL_cat {Im : Nat → Prop} {φ : Emb} {s : St} {B : Nat} {w : World} : ∀ {xs ys : List AV} {cs ds : List Value}, relL Im φ s B w xs cs → relL Im φ s B w ys ds → relL Im φ s B w (xs ++ ys) (cs ++ ds)
  | [], ys, cs, ds, h, k => by simp only [relL] at h; subst h; exact k
  | x :: xs, ys, cs, ds, h, k => by
    simp only [relL] at h
    obtain ⟨v, r, rfl, h1, h2⟩ := h
    simp only [List.cons_append, relL]
    exact ⟨v, r ++ ds, rfl, h1, relL_cat h2 k⟩
theorem opens_int {P : Program} {t : Nat} {k : IntKind} (ht : P.underlying t = some (.int k)) : Opens P t (fun n : Int => [.int k n]) fun n => (Lit.int k n).wf = true := by
  intro H en w spare held fuel cs x hx
  obtain ⟨n, rfl, _, hw⟩ := DataW.trod_int ht hx
  exact ⟨n, hw, by simp [relL, rel], by simp [Value.oneCell']⟩
theorem opens_bool {P : Program} {t : Nat} (ht : P.underlying t = some .bool) : Opens P t (fun b : Bool => [.bool b]) fun _ => True := by
  intro H en w spare held fuel cs x hx
  obtain ⟨n, rfl, _⟩ := DataW.trod_bool ht hx
  exact ⟨n, trivial, by simp [relL, rel], by simp [Value.oneCell']⟩
theorem opens_string {P : Program} {t : Nat} (ht : P.underlying t = some .string) : Opens P t (fun b : ByteArray => [.str b]) fun b => b.size ≤ maxLen := by
  intro H en w spare held fuel cs x hx
  obtain ⟨n, rfl, _, hw⟩ := DataW.trod_string ht hx
  exact ⟨n, hw, by simp [relL, rel], by simp [Value.oneCell']⟩
theorem drop_cat (cs : List Value) (o n m : Nat) : ((cs.drop o).take n) ++ ((cs.drop (o + n)).take m) = (cs.drop o).take (n + m) := by
  rw [List.take_add, List.drop_drop]
theorem mem_part {cs : List Value} {o n : Nat} {u : Value} (h : u ∈ (cs.drop o).take n) : u ∈ cs := List.mem_of_mem_drop (List.mem_of_mem_take h)
section
variable {P : Program} {t : Nat} {f0 f1 f2 f3 : Field} {α0 α1 α2 α3 : Type} {e0 : α0 → List AV} {e1 : α1 → List AV} {e2 : α2 → List AV} {e3 : α3 → List AV} {k0 : α0 → Prop} {k1 : α1 → Prop} {k2 : α2 → Prop} {k3 : α3 → Prop}
theorem opens_struct1 (ht : P.underlying t = some (.struct #[f0])) (h0 : Opens P f0.type e0 k0) (hc : f0.offset = 0 ∧ P.cellsOf t = P.cellsOf f0.type) : Opens P t e0 k0 := by
  intro H en w spare held fuel cs x hx
  obtain ⟨y0, n, _, hl, g0⟩ := trod_struct1 ht hx
  obtain ⟨o0, hC⟩ := hc
  rw [o0, List.drop_zero, ← hC, ← hl, List.take_length] at g0
  exact h0 H en w spare held _ _ _ g0
theorem opens_struct3 (ht : P.underlying t = some (.struct #[f0, f1, f2])) (h0 : Opens P f0.type e0 k0) (h1 : Opens P f1.type e1 k1) (h2 : Opens P f2.type e2 k2)
    (hc : f0.offset = 0 ∧ f1.offset = P.cellsOf f0.type ∧ f2.offset = P.cellsOf f0.type + P.cellsOf f1.type ∧ P.cellsOf t = P.cellsOf f0.type + P.cellsOf f1.type + P.cellsOf f2.type) :
    Opens P t (fun a : α0 × α1 × α2 => e0 a.1 ++ (e1 a.2.1 ++ e2 a.2.2)) fun a => k0 a.1 ∧ k1 a.2.1 ∧ k2 a.2.2 := by
  intro H en w spare held fuel cs x hx
  obtain ⟨y0, y1, y2, n, _, hl, g0, g1, g2⟩ := trod_struct3 ht hx
  obtain ⟨o0, o1, o2, hC⟩ := hc
  obtain ⟨a0, p0, q0, r0⟩ := h0 H en w spare held _ _ _ g0
  obtain ⟨a1, p1, q1, r1⟩ := h1 H en w spare held _ _ _ g1
  obtain ⟨a2, p2, q2, r2⟩ := h2 H en w spare held _ _ _ g2
  have e : cs = ((cs.drop f0.offset).take (P.cellsOf f0.type)) ++ (((cs.drop f1.offset).take (P.cellsOf f1.type)) ++ ((cs.drop f2.offset).take (P.cellsOf f2.type))) := by
    rw [o0, o1, o2, drop_cat]
    have := drop_cat cs 0 (P.cellsOf f0.type) (P.cellsOf f1.type + P.cellsOf f2.type)
    rw [Nat.zero_add] at this
    rw [this, List.drop_zero, ← Nat.add_assoc, ← hC, ← hl, List.take_length]
  refine ⟨(a0, a1, a2), ⟨p0, p1, p2⟩, ?_, fun u hu => ?_⟩
  · have := relL_cat q0 (relL_cat q1 q2)
    rw [← e] at this
    exact this
  · rw [e, List.mem_append, List.mem_append] at hu
    rcases hu with hu | hu | hu
    · exact r0 u hu
    · exact r1 u hu
    · exact r2 u hu
theorem opens_struct4 (ht : P.underlying t = some (.struct #[f0, f1, f2, f3])) (h0 : Opens P f0.type e0 k0) (h1 : Opens P f1.type e1 k1) (h2 : Opens P f2.type e2 k2) (h3 : Opens P f3.type e3 k3)
    (hc : f0.offset = 0 ∧ f1.offset = P.cellsOf f0.type ∧ f2.offset = P.cellsOf f0.type + P.cellsOf f1.type ∧ f3.offset = P.cellsOf f0.type + P.cellsOf f1.type + P.cellsOf f2.type ∧ P.cellsOf t = P.cellsOf f0.type + P.cellsOf f1.type + P.cellsOf f2.type + P.cellsOf f3.type) :
    Opens P t (fun a : α0 × α1 × α2 × α3 => e0 a.1 ++ (e1 a.2.1 ++ (e2 a.2.2.1 ++ e3 a.2.2.2))) fun a => k0 a.1 ∧ k1 a.2.1 ∧ k2 a.2.2.1 ∧ k3 a.2.2.2 := by
  intro H en w spare held fuel cs x hx
  obtain ⟨y0, y1, y2, y3, n, _, hl, g0, g1, g2, g3⟩ := Go.Joins.trod_struct4 ht hx
  obtain ⟨o0, o1, o2, o3, hC⟩ := hc
  obtain ⟨a0, p0, q0, r0⟩ := h0 H en w spare held _ _ _ g0
  obtain ⟨a1, p1, q1, r1⟩ := h1 H en w spare held _ _ _ g1
  obtain ⟨a2, p2, q2, r2⟩ := h2 H en w spare held _ _ _ g2
  obtain ⟨a3, p3, q3, r3⟩ := h3 H en w spare held _ _ _ g3
  have e : cs = ((cs.drop f0.offset).take (P.cellsOf f0.type)) ++ (((cs.drop f1.offset).take (P.cellsOf f1.type)) ++ (((cs.drop f2.offset).take (P.cellsOf f2.type)) ++ ((cs.drop f3.offset).take (P.cellsOf f3.type)))) := by
    rw [o0, o1, o2, o3, drop_cat, drop_cat]
    have := drop_cat cs 0 (P.cellsOf f0.type) (P.cellsOf f1.type + (P.cellsOf f2.type + P.cellsOf f3.type))
    rw [Nat.zero_add] at this
    rw [this, List.drop_zero, show P.cellsOf f0.type + (P.cellsOf f1.type + (P.cellsOf f2.type + P.cellsOf f3.type)) = P.cellsOf t by omega, ← hl, List.take_length]
  refine ⟨(a0, a1, a2, a3), ⟨p0, p1, p2, p3⟩, ?_, fun u hu => ?_⟩
  · have := relL_cat q0 (relL_cat q1 (relL_cat q2 q3))
    rw [← e] at this
    exact this
  · rw [e, List.mem_append, List.mem_append, List.mem_append] at hu
    rcases hu with hu | hu | hu | hu
    · exact r0 u hu
    · exact r1 u hu
    · exact r2 u hu
    · exact r3 u hu
end
theorem CellsAt.cat {w : World} {a : Addr} {cs ds : List Value} (h : CellsAt w a cs) (k : CellsAt w (a.add cs.length) ds) : CellsAt w a (cs ++ ds) := by
  intro j u hj
  rcases Nat.lt_or_ge j cs.length with hlt | hge
  · rw [List.getElem?_append_left hlt] at hj
    exact h j u hj
  · rw [List.getElem?_append_right hge] at hj
    have := k _ u hj
    rw [Go.Deep.add_add] at this
    rwa [show cs.length + (j - cs.length) = j by omega] at this
/-- A slice; E: an element as a whole, that fills sz cells. -/
theorem opens_slice {P : Program} {t e sz : Nat} {α : Type} {enc : α → List AV} {ok : α → Prop} (ht : P.underlying t = some (.slice e)) (hC : P.cellsOf e = sz) (hs : 0 < sz) (h : Opens P e enc ok) (E : α → AV)
    (hE : ∀ (w : World) (a : α) (cs : List Value), RL w (enc a) cs → (∀ u ∈ cs, u.oneCell' = true) → cs.length = sz → ∃ v, v.cells.toList = cs ∧ rel (fun _ => True) Emb.none St.empty w.heap.size w (E a) v) :
    Opens P t (fun l : List α => [.sl e sz .ro (l.map E)]) fun l => ∀ a ∈ l, ok a := by
  intro H en w spare held fuel cs x hx
  rcases Go.Deep.open_slice ht hx with ⟨rfl, _⟩ | ⟨a, len, cap, m, n, D, Pl, rfl, _, hlc, _, hm, _, hel⟩
  · refine ⟨[], by simp, ?_, by simp [Value.oneCell']⟩
    simp only [List.map_nil, relL, rel, relF]
    exact ⟨_, _, rfl, ⟨_, rfl, _, _, rfl, Nat.le_refl _, fun h => absurd h (Nat.lt_irrefl _)⟩, rfl⟩
  · have hlm : len ≤ m := by rw [hm]; split <;> omega
    rw [hC] at hel
    have key : ∀ c i, i + c = len → ∃ l : List α, l.length = c ∧ (∀ a ∈ l, ok a) ∧ ∃ ds, relF (fun _ => True) Emb.none St.empty w.heap.size w sz (l.map E) ds ∧ CellsAt w (a.add (i * sz)) ds := by
      intro c
      induction c with
      | zero => exact fun i _ => ⟨[], rfl, by simp, [], by simp [relF], fun j u hj => by simp at hj⟩
      | succ c ih =>
        intro i hi
        obtain ⟨l, l1, l2, ds, l3, l4⟩ := ih (i + 1) (by omega)
        obtain ⟨cs', c1, c2⟩ := hel i (by omega)
        obtain ⟨_, c3, c4⟩ := World.cells?_some c1
        obtain ⟨b, b1, b2, b3⟩ := h H en w spare held n cs' _ c2
        obtain ⟨v, v1, v2⟩ := hE w b cs' b2 b3 c3
        refine ⟨b :: l, by simp [l1], fun z hz => ?_, cs' ++ ds, ?_, ?_⟩
        · rcases List.mem_cons.1 hz with rfl | hz
          · exact b1
          · exact l2 z hz
        · simp only [List.map_cons, relF]
          refine ⟨v, ds, by rw [v1], ?_, by rw [v1]; exact b3, v2, l3⟩
          rw [← Array.length_toList, v1, c3]
        · refine CellsAt.cat (fun j u hj => ?_) ?_
          · have hjl : j < sz := by have := (List.getElem?_eq_some_iff.1 hj).1; omega
            rw [c4 j hjl, hj]
          · rw [Go.Deep.add_add, c3, show i * sz + sz = (i + 1) * sz by rw [Nat.succ_mul]]
            exact l4
    obtain ⟨l, l1, l2, ds, l3, l4⟩ := key len 0 (by omega)
    refine ⟨l, l2, ?_, by simp [Value.oneCell']⟩
    simp only [relL, rel]
    refine ⟨_, _, rfl, ⟨ds, l3, ?_⟩, rfl⟩
    rw [List.length_map, l1]
    refine ⟨some a, cap, rfl, hlc, fun h0 => ⟨a, rfl, ?_, not_mut_empty _ _, fun _ => trivial, ?_⟩⟩
    · obtain ⟨cs', c1, _⟩ := hel 0 (by omega)
      have := World.cells?_block c1 hs
      rwa [Nat.zero_mul, show a.add 0 = a by unfold Addr.add; simp] at this
    · rwa [Nat.zero_mul, show a.add 0 = a by unfold Addr.add; simp] at l4
theorem elem_agg {α : Type} (enc : α → List AV) (w : World) (a : α) (cs : List Value) (h : RL w (enc a) cs) (h1 : ∀ u ∈ cs, u.oneCell' = true) : ∃ v, v.cells.toList = cs ∧ rel (fun _ => True) Emb.none St.empty w.heap.size w (.agg (enc a)) v :=
  ⟨.agg cs.toArray, by simp [Value.cells], by simp only [rel]; exact ⟨cs, rfl, h, h1⟩⟩
theorem elem_one {α : Type} (E : α → AV) (w : World) (a : α) (cs : List Value) (h : RL w [E a] cs) (h1 : ∀ u ∈ cs, u.oneCell' = true) : ∃ v, v.cells.toList = cs ∧ rel (fun _ => True) Emb.none St.empty w.heap.size w (E a) v := by
  simp only [relL] at h
  obtain ⟨v, r, rfl, h2, rfl⟩ := h
  refine ⟨v, ?_, h2⟩
  have := h1 v (by simp)
  cases v <;> simp_all [Value.cells, Value.oneCell']
end Go.Proofs.YtmcfgljdpjalfaaV
