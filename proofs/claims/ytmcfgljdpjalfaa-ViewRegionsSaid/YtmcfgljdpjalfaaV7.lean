/- The abstract layer, seventh text: stores into boxes; code that is walked in the text's order. -/
import Derived.Test.YtmcfgljdpjalfaaVM
import Derived.Laws.CopyRow
import Derived.Laws.BytesString
import Derived.OrdersIn
import Derived.RangeFuncNested
set_option linter.unusedVariables false
set_option linter.unusedSimpArgs false
set_option linter.constructorNameAsVariable false
set_option linter.unusedSectionVars false
namespace Go.Proofs.YtmcfgljdpjalfaaV
open Go.RowKit

/-- An element with some cells written. -/
def storeEl (sz off : Nat) (y x : AV) (ys : List AV) : Option AV :=
  if off = 0 ∧ ys.length = sz then some x else
  match y with
  | .agg zs => if off + ys.length ≤ zs.length ∧ zs.length = sz then some (.agg (zs.take off ++ ys ++ zs.drop (off + ys.length))) else none
  | _ => none
def St.put (s : St) (n : Nat) (r : RowC) : St := ⟨s.box, s.row.set n (some r)⟩
def storeAV (T : Tab) (s : St) (t : Nat) (a x : AV) : Option St :=
  match T t, okCells s x with
  | some d, some ys => match a with
    | .ptr b off => match s.box[b]? with
      | some p => if ys.length = d.size ∧ off + ys.length ≤ p.2.length then some ⟨s.box.set b (p.1, p.2.take off ++ ys ++ p.2.drop (off + ys.length)), s.row⟩ else none
      | none => none
    | .elo n i off => match s.at n with
      | some p => match p.2.2[i]? with
        | some y => match storeEl p.2.1 off y x ys with
          | some z => if ys.length = d.size then some (s.put n (p.1, p.2.1, p.2.2.set i z)) else none
          | none => none
        | none => none
      | none => none
    | _ => none
  | _, _ => none
theorem at_put {s : St} {n : Nat} (hn : n < s.row.length) (r : RowC) (m : Nat) : (s.put n r).at m = if m = n then some r else s.at m := by
  unfold St.at St.put
  simp only [List.getElem?_set]
  by_cases h : m = n
  · subst h; simp [hn]
  · rw [if_neg (Ne.symm h), if_neg h]
theorem live_put {s : St} {n : Nat} (hl : s.live n = true) (r : RowC) (m : Nat) : (s.put n r).live m = s.live m := by
  unfold St.live
  rw [at_put (live_lt hl)]
  split
  · rename_i h; subst h; unfold St.live at hl; simp [hl]
  · rfl

section
variable {P : Program} {T : Tab} (hT : TabOk P T) {Im : Nat → Prop} {φ : Emb} {s : St} {B : Nat} {w : World}
/-- Row n is written. -/
theorem Inv.putRow (hI : Inv Im φ s B w) {n e sz : Nat} {xs xs' : List AV} (ha : s.at n = some (e, sz, xs)) {g : Nat} (hg : φ.rw n = some g) {cur cur' : Array Value} {w1 : World} (h0 : w.heap[g]? = some (.cells cur e (0, 0)))
    (hw : w.grownBy w1 (some g)) (hdr : w.drawn ≤ w1.drawn) (h1 : w1.heap[g]? = some (.cells cur' e (0, 0))) (hs : cur'.size = cur.size) (hl : xs'.length = xs.length) {cs' : List Value} (hF : relF Im φ s B w sz xs' cs') (ht : cur'.toList.take (xs'.length * sz) = cs') :
    Step B φ s w φ (s.put n (e, sz, xs')) w1 ∧ Inv Im φ (s.put n (e, sz, xs')) B w1 := by
  have hlive := at_live ha
  have hnlt := at_lt ha
  have hM : Mut φ s g := .inr ⟨n, hlive, hg⟩
  have hother : ∀ g', g' < w.heap.size → g' ≠ g → w1.heap[g']? = w.heap[g']? := fun g' hl hg' => hw.block g' hl fun e => hg' (by injection e)
  have hmut : ∀ g', Mut φ (s.put n (e, sz, xs')) g' ↔ Mut φ s g' := by
    intro g'
    unfold Mut
    simp only [live_put hlive]
    rfl
  have hne : ∀ m, s.live m = true → m ≠ n → ∀ g', φ.rw m = some g' → g' ≠ g := fun m hm hmn g' hg' e => hmn (hI.rwinj m n g' hm hlive hg' (e ▸ hg))
  have hstep : Step B φ s w φ (s.put n (e, sz, xs')) w1 := by
    refine ⟨by simp [St.put], Nat.le_refl _, fun _ _ => rfl, fun m e2 sz2 xs2 hm hl2 => ?_, fun g' hg' hm => ⟨hother g' hg' fun e => hm (e ▸ hM), fun h => hm ((hmut g').1 h)⟩, (Below.refl B w).grown hw hI.hB (fun k hk => by injection hk with hk; subst hk; exact (hI.bnd _ hM).1), hdr⟩
    rw [at_put hnlt] at hl2
    split at hl2
    · rename_i hmn
      subst hmn
      simp only [Option.some.injEq, Prod.mk.injEq] at hl2
      obtain ⟨rfl, rfl, rfl⟩ := hl2
      refine ⟨⟨xs, ha, fun _ => hl⟩, rfl, fun cap hc => ?_⟩
      obtain ⟨g2, cur2, j1, j2, j3, j4⟩ := hc
      rw [hg] at j1
      injection j1 with j1
      subst j1
      rw [h0] at j2
      injection j2 with j2
      injection j2 with j2
      subst j2
      exact ⟨g, cur', hg, h1, hs.trans j3, j4⟩
    · rename_i hmn
      exact ⟨⟨xs2, hl2, fun _ => rfl⟩, rfl, fun cap hc => hc.later rfl fun g' hg' => hother g' (hI.bnd g' (.inr ⟨m, at_live hl2, hg'⟩)).2 (hne m (at_live hl2) hmn g' hg')⟩
  refine ⟨hstep, Nat.le_trans hI.hB hw.size, fun g' hm => ?_, hI.bxinj, fun m m' g' hm hm' => hI.rwinj m m' g' (by rwa [live_put hlive] at hm) (by rwa [live_put hlive] at hm'), fun b m hb hm => hI.bxrw b m hb (by rwa [live_put hlive] at hm), fun b ty cs hb => ?_, fun m e2 sz2 xs2 hl2 => ?_⟩
  · obtain ⟨k1, k2⟩ := hI.bnd g' ((hmut g').1 hm)
    exact ⟨k1, Nat.lt_of_lt_of_le k2 hw.size⟩
  · obtain ⟨vs, k1, k2, k3⟩ := hI.cells b ty cs hb
    have hblt : b < s.box.length := (List.getElem?_eq_some_iff.1 hb).1
    exact ⟨vs, by rw [hother _ (hI.bnd _ (.inl ⟨b, hblt, rfl⟩)).2 fun e => hI.bxrw b n hblt hlive (by rw [hg, e])]; exact k1, relL_step hstep _ _ k2, k3⟩
  · rw [at_put hnlt] at hl2
    split at hl2
    · rename_i hmn
      subst hmn
      simp only [Option.some.injEq, Prod.mk.injEq] at hl2
      obtain ⟨rfl, rfl, rfl⟩ := hl2
      rcases hI.rows _ _ _ _ ha with ⟨hp, k | ⟨g2, cap, cur2, cs2, j1, j2, j3, j4, j5, j6, j7⟩⟩ | ⟨_, g2, ms, ck, j1, j2, _, _⟩
      · rw [k.1] at hg; cases hg
      rotate_left
      · rw [hg] at j1; injection j1 with j1; subst j1; rw [h0] at j2; cases j2
      · rw [hg] at j1
        injection j1 with j1
        subst j1
        rw [h0] at j2
        injection j2 with j2
        injection j2 with j2
        subst j2
        exact .inl ⟨hp, .inr ⟨g, cap, cur', cs', hg, h1, hs.trans j3, j4, by omega, relF_step hstep _ _ _ hF, ht⟩⟩
    · rename_i hmn
      exact RowOk.step hstep (RowOk.later (hI.rows m e2 sz2 xs2 hl2) fun g' hg' => hother g' (hI.bnd g' (.inr ⟨m, at_live hl2, hg'⟩)).2 (hne m (at_live hl2) hmn g' hg'))
theorem Inv.setBox (hI : Inv Im φ s B w) {b : Nat} {ty : Nat} {cs cs' : List AV} (hb : s.box[b]? = some (ty, cs)) {vs' : List Value} (hr : relL Im φ s B w cs' vs') (h1 : ∀ u ∈ vs', u.oneCell' = true) :
    Step B φ s w φ ⟨s.box.set b (ty, cs'), s.row⟩ (w.setRow (φ.bx b) vs'.toArray) ∧ Inv Im φ ⟨s.box.set b (ty, cs'), s.row⟩ B (w.setRow (φ.bx b) vs'.toArray) := by
  obtain ⟨vs, k1, k2, k3, k4, k5⟩ := hI.boxAt hb
  have hblt : b < s.box.length := (List.getElem?_eq_some_iff.1 hb).1
  have hM : Mut φ s (φ.bx b) := .inl ⟨b, hblt, rfl⟩
  have hother : ∀ g, g ≠ φ.bx b → (w.setRow (φ.bx b) vs'.toArray).heap[g]? = w.heap[g]? := fun g hg => setRow_other w _ g _ hg
  have hsz : (w.setRow (φ.bx b) vs'.toArray).heap.size = w.heap.size := by simp [World.setRow]
  have hlive : ∀ n, (St.mk (s.box.set b (ty, cs')) s.row).live n = s.live n := fun _ => rfl
  have hmut : ∀ g, Mut φ ⟨s.box.set b (ty, cs'), s.row⟩ g ↔ Mut φ s g := by intro g; simp [Mut, hlive]
  have hrow : ∀ n, s.live n = true → ∀ g, φ.rw n = some g → g ≠ φ.bx b := fun n hl g hg e => hI.bxrw b n hblt hl (by rw [hg, e])
  have hstep : Step B φ s w φ ⟨s.box.set b (ty, cs'), s.row⟩ (w.setRow (φ.bx b) vs'.toArray) := by
    refine ⟨Nat.le_refl _, by simp, fun _ _ => rfl, fun n e sz xs' hn hl => ⟨⟨xs', hl, fun _ => rfl⟩, rfl, fun cap hc => RowAt.later hc rfl fun g hg => hother g (hrow n (at_live (s := s) hl) g hg)⟩, fun g hg hm => ⟨hother g fun e => hm (e ▸ hM), fun h => hm ((hmut g).1 h)⟩, ?_, Nat.le_refl _⟩
    exact ⟨rfl, rfl, rfl, by rw [hsz]; exact Nat.le_refl _, fun k hk => hother k (by have := (hI.bnd _ hM).1; omega)⟩
  refine ⟨hstep, by rw [hsz]; exact hI.hB, fun g hm => by rw [hsz]; exact hI.bnd g ((hmut g).1 hm), fun c c' hc hc' => hI.bxinj c c' (by simpa using hc) (by simpa using hc'), hI.rwinj, fun c n hc => hI.bxrw c n (by simpa using hc), fun c ty' cs'' hc => ?_, fun n e sz xs hl => RowOk.step hstep (RowOk.later (hI.rows n e sz xs hl) fun g hg => hother g (hrow n (at_live (s := s) hl) g hg))⟩
  by_cases e : b = c
  · subst e
    simp only [List.getElem?_set, if_pos, hblt] at hc
    simp only [Option.some.injEq, Prod.mk.injEq] at hc
    obtain ⟨rfl, rfl⟩ := hc
    exact ⟨vs', setRow_heap w _ _ _ _ _ k1, relL_step hstep _ _ hr, h1⟩
  · rw [List.getElem?_set_ne e] at hc
    obtain ⟨us, j1, j2, j3⟩ := hI.cells c ty' cs'' hc
    have hclt : c < s.box.length := (List.getElem?_eq_some_iff.1 hc).1
    exact ⟨us, by rw [hother _ fun h => e (hI.bxinj c b hclt hblt h).symm]; exact j1, relL_step hstep _ _ j2, j3⟩
theorem storeEl_ok {sz off i : Nat} {y x z : AV} {ys xs : List AV} {cs : List Value} {vx : Value} (h : storeEl sz off y x ys = some z) (hy : xs[i]? = some y) (hF : relF Im φ s B w sz xs cs) (hx : rel Im φ s B w x vx) (g1 : relL Im φ s B w ys vx.cells.toList) (g2 : ∀ u ∈ vx.cells.toList, u.oneCell' = true) :
    relF Im φ s B w sz (xs.set i z) (cs.take (i * sz + off) ++ vx.cells.toList ++ cs.drop (i * sz + off + ys.length)) ∧ off + ys.length ≤ sz := by
  have hi : i < xs.length := (List.getElem?_eq_some_iff.1 hy).1
  have hl := relL_len _ _ g1
  unfold storeEl at h
  split at h
  · rename_i hc
    obtain ⟨rfl, hsz⟩ := hc
    injection h with h
    subst h
    have := relF_set xs cs hF i x vx hi (by rw [← hsz, ← hl]; simp) g2 hx
    rw [Nat.add_zero, hsz]
    exact ⟨this, by omega⟩
  · split at h
    · rename_i zs
      split at h
      · rename_i hc
        obtain ⟨hc1, hc2⟩ := hc
        injection h with h
        subst h
        obtain ⟨vy, k1, k2, k3, k4⟩ := relF_get _ _ hF _ _ hy
        simp only [rel] at k3
        obtain ⟨ds, rfl, j1, j2⟩ := k3
        simp only [Value.cells] at k1 k4
        have hd := relL_len _ _ j1
        have hcl := relF_len _ _ hF
        have hfit : i * sz + sz ≤ cs.length := by rw [hcl, ← Nat.succ_mul]; exact Nat.mul_le_mul_right _ hi
        have hnew := relF_set xs cs hF i (.agg (zs.take off ++ ys ++ zs.drop (off + ys.length))) (.agg (ds.take off ++ vx.cells.toList ++ ds.drop (off + vx.cells.toList.length)).toArray) hi
          (by
            have e1 : vx.cells.toList.length = ys.length := hl
            show (List.toArray _).size = sz
            simp only [List.size_toArray, List.length_append, List.length_take, List.length_drop, e1]
            omega)
          (by
            intro u hu
            simp only [Value.cells] at hu
            rcases List.mem_append.1 hu with hu | hu
            · rcases List.mem_append.1 hu with hu | hu
              · exact j2 u (List.mem_of_mem_take hu)
              · exact g2 u hu
            · exact j2 u (List.mem_of_mem_drop hu))
          (by
            simp only [rel]
            refine ⟨_, rfl, relL_append _ _ _ _ (relL_append _ _ _ _ (relL_take _ _ _ j1) g1) (by rw [hl]; exact relL_drop _ _ _ j1), ?_⟩
            intro u hu
            rcases List.mem_append.1 hu with hu | hu
            · rcases List.mem_append.1 hu with hu | hu
              · exact j2 u (List.mem_of_mem_take hu)
              · exact g2 u hu
            · exact j2 u (List.mem_of_mem_drop hu))
        simp only [Value.cells] at hnew
        have hpart : ds = (cs.drop (i * sz)).take sz := by
          apply List.ext_getElem?
          intro j
          rw [List.getElem?_take]
          split
          · rename_i hj
            rw [List.getElem?_drop]
            have hj' : j < ds.length := by omega
            rw [List.getElem?_eq_getElem hj']
            exact (k4 j _ (by simp [hj'])).symm
          · rename_i hj
            exact List.getElem?_eq_none (by omega)
        refine ⟨?_, by omega⟩
        have e1 : cs.take (i * sz + off) ++ vx.cells.toList ++ cs.drop (i * sz + off + ys.length) = cs.take (i * sz) ++ (ds.take off ++ vx.cells.toList ++ ds.drop (off + vx.cells.toList.length)) ++ cs.drop (i * sz + sz) := by
          rw [hl]
          have a1 : cs.take (i * sz + off) = cs.take (i * sz) ++ ds.take off := by
            rw [hpart, List.take_take, Nat.min_eq_left (by omega), List.take_add]
          have a2 : cs.drop (i * sz + off + ys.length) = ds.drop (off + ys.length) ++ cs.drop (i * sz + sz) := by
            rw [hpart, List.drop_take, List.drop_drop]
            have : cs.drop (i * sz + sz) = (cs.drop (i * sz + (off + ys.length))).drop (sz - (off + ys.length)) := by rw [List.drop_drop]; congr 1; omega
            rw [this, List.take_append_drop, Nat.add_assoc]
          rw [a1, a2]
          simp [List.append_assoc]
        rw [e1]
        exact hnew
      · cases h
    · cases h
include hT
theorem storeAV_ok (hI : Inv Im φ s B w) {t : Nat} {a x : AV} {va vx : Value} {s' : St} (h : storeAV T s t a x = some s') (ha : rel Im φ s B w a va) (hx : rel Im φ s B w x vx) :
    ∃ w', (Instr.storeAt t va vx).run P w = .ok () w' ∧ Step B φ s w φ s' w' ∧ Inv Im φ s' B w' := by
  unfold storeAV at h
  split at h
  · rename_i d ys hd hys
    obtain ⟨g1, g2⟩ := okCells_ok hys hx
    have l1 := relL_len _ _ g1
    split at h
    · rename_i b off
      split at h
      · rename_i p hp
        split at h
        · rename_i hc
          obtain ⟨c1, c2⟩ := hc
          injection h with h
          subst h
          simp only [rel] at ha
          obtain ⟨_, rfl⟩ := ha
          obtain ⟨vs, k1, k2, k3, k4, k5⟩ := hI.boxAt hp
          have l2 := relL_len _ _ k2
          obtain ⟨p1, p2⟩ := p
          have hb : s.box[b]? = some (p1, p2) := hp
          obtain ⟨hs1, hs2⟩ := hI.setBox hb (cs' := p2.take off ++ ys ++ p2.drop (off + ys.length)) (vs' := vs.take off ++ vx.cells.toList ++ vs.drop (off + vx.cells.toList.length))
            (relL_append _ _ _ _ (relL_append _ _ _ _ (relL_take _ _ _ k2) g1) (by rw [l1]; exact relL_drop _ _ _ k2))
            (by
              intro u hu
              rcases List.mem_append.1 hu with hu | hu
              · rcases List.mem_append.1 hu with hu | hu
                · exact k3 u (List.mem_of_mem_take hu)
                · exact g2 u hu
              · exact k3 u (List.mem_of_mem_drop hu))
          refine ⟨_, ?_, hs1, hs2⟩
          simp only at c2 l2
          unfold Instr.storeAt
          simp only [Instr.sureAddr, Sem.run_bind, Sem.run_pure, Result.andThen_ok]
          unfold storeVar
          rw [Sem.run_bind, run_size hT hd]
          simp only [Result.andThen_ok]
          rw [if_neg (by rw [← c1, ← l1]; simp)]
          have := run_storeCells_at P (φ.bx b) off p1 vx.cells.toList 0 vs.toArray w k1 (by simp at l1 ⊢; omega) g2
          rw [this]
          simp
        · cases h
      · cases h
    · rename_i n i off
      split at h
      · rename_i p hp
        obtain ⟨e, sz, xs⟩ := p
        simp only at h
        split at h
        · rename_i y hy
          split at h
          · rename_i z hz
            split at h
            · rename_i hc1
              injection h with h
              subst h
              simp only [rel] at ha
              obtain ⟨h00, hi, g, hg, rfl⟩ := ha.2 _ _ _ hp
              obtain ⟨hp0, k | ⟨g', cap, cur, cs, j1, j2, j3, j4, j5, j6, j7⟩⟩ := (hI.rows _ _ _ _ hp).pos h00
              · rw [k.1] at hg; cases hg
              · rw [j1] at hg
                injection hg with hg
                subst hg
                obtain ⟨q1, q2⟩ := storeEl_ok hz hy j6 hx g1 g2
                have hcl := relF_len _ _ j6
                have hfit0 : i * sz + sz ≤ xs.length * sz := by rw [← Nat.succ_mul]; exact Nat.mul_le_mul_right _ hi
                have hcap : xs.length * sz ≤ cap * sz := Nat.mul_le_mul_right _ j5
                have hrun := run_storeCells_at P g' (i * sz + off) e vx.cells.toList 0 cur w j2 (by omega) g2
                simp only [Nat.add_zero] at hrun
                have hgb : w.grownBy (w.setRow g' (cur.toList.take (i * sz + off) ++ vx.cells.toList ++ cur.toList.drop (i * sz + off + vx.cells.toList.length)).toArray) (some g') :=
                  ⟨rfl, rfl, rfl, by simp [World.setRow], fun k _ hk => setRow_other w g' k _ fun e => hk (by rw [e])⟩
                obtain ⟨hs1, hs2⟩ := hI.putRow hp j1 j2 hgb (Nat.le_refl _) (setRow_heap w g' cur _ e _ j2) (by simp at l1 ⊢; omega) (xs' := xs.set i z) (by simp) q1 (by
                  rw [List.length_set, l1]
                  have e1 : (cur.toList.take (i * sz + off) ++ vx.cells.toList ++ cur.toList.drop (i * sz + off + ys.length)).take (xs.length * sz) = cs.take (i * sz + off) ++ vx.cells.toList ++ cs.drop (i * sz + off + ys.length) := by
                    rw [← j7, List.take_append, List.take_append, List.take_take, List.take_take, List.drop_take]
                    have b1 : (cur.toList.take (i * sz + off)).length = i * sz + off := by simp; omega
                    rw [b1, List.length_append, b1, l1]
                    have b2 : vx.cells.toList.take (xs.length * sz - (i * sz + off)) = vx.cells.toList := List.take_of_length_le (by omega)
                    rw [b2]
                    congr 3
                    omega
                  exact e1)
                refine ⟨_, ?_, hs1, hs2⟩
                unfold Instr.storeAt
                simp only [Instr.sureAddr, Sem.run_bind, Sem.run_pure, Result.andThen_ok]
                unfold storeVar
                rw [Sem.run_bind, run_size hT hd]
                simp only [Result.andThen_ok]
                rw [if_neg (by rw [← hc1, ← l1]; simp)]
                rw [hrun]
            · cases h
          · cases h
        · cases h
      · cases h
    · cases h
  · cases h
end

/-! ### Bytes as a string; a part of a row cleared -/
def bytesOf : List AV → Option (List Int)
  | [] => some []
  | .int .u8 n :: r => (bytesOf r).map (n :: ·)
  | _ => none
def bytesAV (T : Tab) (s : St) (src dst : Nat) (x : AV) : Option AV :=
  match kindOf T src, kindOf T dst, listAV s x with
  | some (.slice e), some .string, some (sz, xs) => match kindOf T e, bytesOf xs with
    | some (.int .u8), some ns => if sz = 1 then some (.str (ns.foldl (fun r n => r.push (UInt8.ofNat n.toNat)) ByteArray.empty)) else none
    | _, _ => none
  | _, _, _ => none
def clearAV (T : Tab) (s : St) (t : Nat) (x : AV) : Option (AV × St) :=
  match elemOf? T t, x with
  | some (e, d), .so n off len => match s.at n, zeroElem? d with
    | some p, some z => if d.size = p.2.1 then some (.tup [], s.put n (p.1, p.2.1, p.2.2.take off ++ List.replicate len z ++ p.2.2.drop (off + len))) else none
    | _, _ => none
  | _, _ => none
section
variable {P : Program} {T : Tab} (hT : TabOk P T) {Im : Nat → Prop} {φ : Emb} {s : St} {B : Nat} {w : World}
theorem bytesOf_ok : ∀ (xs : List AV) (ns : List Int) (cs : List Value), bytesOf xs = some ns → relF Im φ s B w 1 xs cs → cs = ns.map (Value.int .u8)
  | [], ns, cs, h, hr => by simp only [bytesOf, Option.some.injEq] at h; subst h; simp only [relF] at hr; subst hr; rfl
  | x :: r, ns, cs, h, hr => by
    unfold bytesOf at h
    split at h
    · rename_i he; cases he
    · rename_i n r' he
      injection he with he1 he2
      subst he1 he2
      obtain ⟨ms, hm, rfl⟩ := Option.map_eq_some_iff.1 h
      simp only [relF] at hr
      obtain ⟨v, r, rfl, _, _, hv, hr⟩ := hr
      simp only [rel] at hv
      subst hv
      rw [bytesOf_ok _ _ _ hm hr]
      simp [Value.cells]
    · cases h
include hT
theorem bytesAV_ok (hI : Inv Im φ s B w) {src dst : Nat} {x z : AV} {v : Value} (h : bytesAV T s src dst x = some z) (hx : rel Im φ s B w x v) :
    ∃ u, (∀ w', Below w.heap.size w w' → (convert src dst v).run P w' = .ok u w') ∧ rel Im φ s B w z u := by
  unfold bytesAV at h
  split at h
  · rename_i e sz xs h1 h2 h3
    split at h
    · rename_i ns h4 h5
      split at h
      · rename_i hsz
        subst hsz
        injection h with h
        subst h
        obtain ⟨cs, A, c, g1, rfl, g3, g4⟩ := listAV_ok hI h3 hx
        have hcs := bytesOf_ok _ _ _ h5 g1
        have hl := relF_len _ _ g1
        rw [Nat.mul_one] at hl
        refine ⟨_, fun w' hb => ?_, by simp only [rel]; rfl⟩
        rw [run_convert_bytes_string w' src dst e A _ _ (kindOf_und hT h1).1 (kindOf_und hT h4).1 (kindOf_und hT h2).1]
        cases A with
        | none =>
          have h0 : xs.length = 0 := by
            rcases Nat.eq_zero_or_pos xs.length with h | h
            · exact h
            · obtain ⟨a, ha, _⟩ := g4 h; cases ha
          have : ns = [] := by
            have : cs = [] := List.eq_nil_of_length_eq_zero (by omega)
            rw [this] at hcs
            exact (List.map_eq_nil_iff.1 hcs.symm)
          subst this
          rfl
        | some a =>
          refine run_bytesToString w' a _ _ ns ?_
          rw [← hcs, ← hl]
          rcases Nat.eq_zero_or_pos xs.length with h0 | h0
          · have : cs = [] := List.eq_nil_of_length_eq_zero (by omega)
            subst this
            rfl
          · obtain ⟨a', ha, hlt, hc⟩ := g4 h0
            injection ha with ha
            subst ha
            exact run_loadCells_list w' _ _ (hc.of_block (hb.block _ hlt))
      · cases h
    · cases h
  · cases h
theorem clearAV_ok (hI : Inv Im φ s B w) {t ty : Nat} {x z : AV} {v : Value} {s' : St} (h : clearAV T s t x = some (z, s')) (hx : rel Im φ s B w x v) :
    ∃ u w', (Builtin.clear_ #[t] ty #[v]).run P w = .ok u w' ∧ Step B φ s w φ s' w' ∧ Inv Im φ s' B w' ∧ rel Im φ s' B w' z u := by
  unfold clearAV at h
  split at h
  · rename_i e d n off len he
    obtain ⟨hk, hd⟩ := elemOf?_spec he
    obtain ⟨hu, _⟩ := kindOf_und hT hk
    obtain ⟨_, i, zv, hi, hi1, hi2, hi3, hi4, hzl, hz1, _⟩ := hT e d hd
    split at h
    · rename_i p z0 ha hz
      obtain ⟨e', sz, xs⟩ := p
      simp only at h
      split at h
      · rename_i hsz
        simp only [Option.some.injEq, Prod.mk.injEq] at h
        obtain ⟨rfl, rfl⟩ := h
        simp only [rel] at hx
        obtain ⟨hl, hv⟩ := hx.2 _ _ _ ha
        have huz : rel Im φ (s.put n (e', sz, xs.take off ++ List.replicate len z0 ++ xs.drop (off + len))) B w (.tup []) (.tuple #[]) := by simp [rel, relL]
        rcases hv.2 with ⟨h1, rfl, rfl, rfl⟩ | ⟨g, cap, q, h1, h2, h3, rfl, h5, h6⟩
        · have hs : s.put n (e', sz, xs.take 0 ++ List.replicate 0 z0 ++ xs.drop (0 + 0)) = s := by
            obtain ⟨b, r⟩ := s
            simp only [St.put, List.take_zero, List.replicate_zero, List.nil_append, Nat.add_zero, List.drop_zero, St.mk.injEq, true_and]
            have hr : r[n]? = some (some (e', sz, xs)) := by
              simp only [St.at] at ha
              cases hq : r[n]? with
              | none => rw [hq] at ha; cases ha
              | some y => rw [hq] at ha; simp at ha; rw [ha]
            exact List.ext_getElem? fun k => by
              rw [List.getElem?_set]
              split
              · rename_i hk'; subst hk'; rw [hr]; simp [(List.getElem?_eq_some_iff.1 hr).1]
              · rfl
          rw [hs]
          refine ⟨.tuple #[], w, ?_, Step.refl .., hI, by simp [rel, relL]⟩
          simp [Builtin.clear_, run_underlying hu]
        · obtain ⟨hp0, k | ⟨g', cap', cur, cs, j1, j2, j3, j4, j5, j6, j7⟩⟩ := (hI.rows _ _ _ _ ha).pos hv.1
          · rw [k.1] at h1; cases h1
          · rw [j1] at h1
            injection h1 with h1
            subst h1
            obtain ⟨g2, cur2, q1, q2, q3, q4⟩ := h2
            rw [j1] at q1
            injection q1 with q1
            subst q1
            rw [j2] at q2
            injection q2 with q2
            injection q2 with q2 q2'
            subst q2
            obtain ⟨vz, hvz, hrz⟩ := zeroElem_ok (Im := Im) (φ := φ) (s := s) (B := B) (w := w) hz hz1
            have hszv : vz.cells.size = sz := by rw [← hsz, ← hzl, ← hvz]; simp
            have hrep := relF_replicate hrz hszv (by rw [hvz]; exact hz1) len
            have hF := relF_append _ _ _ _ (relF_append _ _ _ _ (relF_take off _ _ j6) hrep) (relF_drop (off + len) _ _ j6)
            have hxl : (xs.take off ++ List.replicate len z0 ++ xs.drop (off + len)).length = xs.length := by simp; omega
            have hrl : (List.replicate len vz.cells.toList).flatten.length = len * sz := by have := relF_len _ _ hrep; simpa using this
            have hcl := relF_len _ _ j6
            have hzc : (Builtin.zeroCells zv.cells len).toList = (List.replicate len vz.cells.toList).flatten := by
              have := made_cells d.zero.toArray len
              rw [hvz]
              have e1 : zv.cells = d.zero.toArray := by rw [← hi4]
              rw [e1]
              simpa [Builtin.zeroCells] using this
            rcases Nat.eq_zero_or_pos len with h0 | h0
            · subst h0
              have hs : s.put n (e', sz, xs.take off ++ List.replicate 0 z0 ++ xs.drop (off + 0)) = s := by
                obtain ⟨b, r⟩ := s
                simp only [St.put, List.replicate_zero, List.append_nil, Nat.add_zero, List.take_append_drop, St.mk.injEq, true_and]
                have hr : r[n]? = some (some (e', sz, xs)) := by
                  simp only [St.at] at ha
                  cases hq : r[n]? with
                  | none => rw [hq] at ha; cases ha
                  | some y => rw [hq] at ha; simp at ha; rw [ha]
                exact List.ext_getElem? fun k => by
                  rw [List.getElem?_set]
                  split
                  · rename_i hk'; subst hk'; rw [hr]; simp [(List.getElem?_eq_some_iff.1 hr).1]
                  · rfl
              rw [hs]
              refine ⟨.tuple #[], w, ?_, Step.refl .., hI, by simp [rel, relL]⟩
              simp [Builtin.clear_, run_underlying hu]
            · have hq := h5 (by omega)
              subst hq
              have hoff : off * sz + len * sz ≤ cap' * sz := by rw [← Nat.add_mul]; exact Nat.mul_le_mul_right _ (by omega)
              have hcells1 : ∀ u ∈ (List.replicate len vz.cells.toList).flatten, u.oneCell' = true := relF_one _ _ hrep
              have hrun := run_storeCells_at P g' (off * sz) e' (List.replicate len vz.cells.toList).flatten 0 cur w j2 (by omega) hcells1
              simp only [Nat.add_zero] at hrun
              rw [hrl] at hrun
              have hgb : w.grownBy (w.setRow g' (cur.toList.take (off * sz) ++ (List.replicate len vz.cells.toList).flatten ++ cur.toList.drop (off * sz + len * sz)).toArray) (some g') :=
                ⟨rfl, rfl, rfl, by simp [World.setRow], fun k _ hk => setRow_other w g' k _ fun e => hk (by rw [e])⟩
              obtain ⟨hs1, hs2⟩ := hI.putRow ha j1 j2 hgb (Nat.le_refl _) (setRow_heap w g' cur _ e' _ j2)
                (by simp only [List.size_toArray, List.length_append, List.length_take, List.length_drop, Array.length_toList, hrl]; omega)
                hxl hF (by
                  rw [hxl, ← j7]
                  have b1 : (cur.toList.take (off * sz)).length = off * sz := by simp; omega
                  have c1 : off * sz + len * sz ≤ xs.length * sz := by rw [← Nat.add_mul]; exact Nat.mul_le_mul_right _ hl
                  rw [List.take_append, List.take_append, List.length_append, b1, hrl, List.take_take, List.take_take, List.drop_take]
                  have b2 : (List.replicate len vz.cells.toList).flatten.take (xs.length * sz - off * sz) = (List.replicate len vz.cells.toList).flatten := List.take_of_length_le (by rw [hrl]; omega)
                  rw [b2, Nat.min_eq_right (by omega), Nat.min_eq_left (by omega), Nat.add_mul])
              refine ⟨.tuple #[], _, ?_, hs1, hs2, by simp [rel, relL]⟩
              have hzero : (zeroValue e).run P w = .ok zv w := by simp [zeroValue, typeInfo, program, Sem.run, bind, Sem.bind, hi, hi3, pure]
              obtain ⟨len, rfl⟩ : ∃ k, len = k + 1 := ⟨len - 1, by omega⟩
              simp [Builtin.clear_, run_underlying hu, hzero, hzc, hrun]
      · cases h
    · cases h
  · cases h
end

/-! ### The frame, the world, the state -/
/-- Where code is walked: how many slots; whether in a function's own frame; what calls of yield may come. -/
structure En where
  n : Nat
  top : Bool
  Y : Nat → St → List AV → (St → AV → Prop) → Prop
def noY : Nat → St → List AV → (St → AV → Prop) → Prop := fun _ _ _ _ => False
/-- Where no yield may come. -/
def En.noY (N : En) : En := ⟨N.n, N.top, Go.Proofs.YtmcfgljdpjalfaaV.noY⟩
/-- A round's frame. -/
def En.body (N : En) : En := ⟨N.n, false, Go.Proofs.YtmcfgljdpjalfaaV.noY⟩
/-- The marks of loops over functions, among the deferred calls. -/
def Marks (φ : Emb) (s : St) (w0 w : World) : List Deferred → Prop
  | [] => True
  | d :: ds => (∃ D, d = { target := .collected D, args := #[] } ∧ w.heap[D]? = some (.deferred (some [])) ∧ w0.heap.size ≤ D ∧ ¬ Mut φ s D ∧ ∀ d' ∈ ds, ∀ D', d'.target = .collected D' → D' < D) ∧ Marks φ s w0 w ds
theorem lt_of_get {w : World} {D : Nat} {o : Obj} (h : w.heap[D]? = some o) : D < w.heap.size := (Array.getElem?_eq_some_iff.1 h).1
theorem Marks.step {B : Nat} {φ φ' : Emb} {s s' : St} {w0 w w' : World} (hs : Step B φ s w φ' s' w') : ∀ {ds : List Deferred}, Marks φ s w0 w ds → Marks φ' s' w0 w' ds
  | [], _ => trivial
  | d :: ds, h => by
    obtain ⟨⟨D, h1, h2, h3, h4, h5⟩, h6⟩ := h
    obtain ⟨k1, k2⟩ := hs.im D (lt_of_get h2) h4
    exact ⟨⟨D, h1, k1.trans h2, h3, k2, h5⟩, h6.step hs⟩
theorem Marks.off {φ : Emb} {s : St} {w0 w w' : World} {l : Nat} (hl : ∀ c, w.heap[l]? ≠ some (.deferred c)) (ho : ∀ g, g ≠ l → w'.heap[g]? = w.heap[g]?) : ∀ {ds : List Deferred}, Marks φ s w0 w ds → Marks φ s w0 w' ds
  | [], _ => trivial
  | d :: ds, h => by
    obtain ⟨⟨D, h1, h2, h3, h4, h5⟩, h6⟩ := h
    exact ⟨⟨D, h1, (ho D (fun e => hl _ (e ▸ h2))).trans h2, h3, h4, h5⟩, h6.off hl ho⟩
def DefOk (N : En) (φ : Emb) (s : St) (w0 w : World) (ds : List Deferred) : Prop := if N.top = true then Marks φ s w0 w ds else ds = []
theorem DefOk.step {N : En} {B : Nat} {φ φ' : Emb} {s s' : St} {w0 w w' : World} {ds : List Deferred} (h : DefOk N φ s w0 w ds) (hs : Step B φ s w φ' s' w') : DefOk N φ' s' w0 w' ds := by
  unfold DefOk at h ⊢
  split
  · rename_i e; rw [if_pos e] at h; exact h.step hs
  · rename_i e; rw [if_neg e] at h; exact h
structure Sim (N : En) (Im : Nat → Prop) (φ0 : Emb) (s0 : St) (w0 : World) (B : Nat) (φ : Emb) (F : Fr) (s : St) (a : Act) (w : World) : Prop where
  holds : Holds Im φ s B w F a
  size : a.tmps.size = N.n
  defers : DefOk N φ s w0 w a.defers
  inv : Inv Im φ s B w
  step : Step B φ0 s0 w0 φ s w

def Lift (N : En) (Im : Nat → Prop) (φ0 : Emb) (s0 : St) (w0 : World) (B : Nat) (Q : Exit → Fr → St → Prop) : Exit → Act → World → Prop
  | .panic _, _, _ => False
  | .outgrown, _, _ => False
  | e, a, w => ∃ φ F s, Sim N Im φ0 s0 w0 B φ F s a w ∧ Q e F s
theorem Lift.noOut {N : En} {Im : Nat → Prop} {φ0 : Emb} {s0 : St} {w0 : World} {B : Nat} {Q : Exit → Fr → St → Prop} : ¬ LetsOut (Lift N Im φ0 s0 w0 B Q) := fun ⟨_, _, h⟩ => h
/-- The fence of all functions; in a round, or not. -/
def Fw (ro : Option Nat) : Fence := { Fence.wide with round := ro }
theorem rowsIn_wide {m : Nat} {P : Program} {row : String} {args : Array Value} {w : World} {R : Value → World → Prop} (ro : Option Nat) (h : Rows P row args w R) : RowsIn (Fw ro) m P row args w R :=
  fun c cs _ => let ⟨v, w', r, s⟩ := h c cs; ⟨v, w', r, stepsIn_wide.2 s⟩
theorem callsIn_Fw {m : Nat} {P : Program} {f : FuncId} {args : Array Value} {w : World} {R : Ending → World → Prop} (ro : Option Nat) (h : Calls P f args w R) : CallsIn (Fw ro) m P f args w R := callsIn_wide.2 h
theorem Oper.wpIn_of {P : Program} {o : Oper} {a : Act} {w : World} {next : Act → World → Prop} {Q : Exit → Act → World → Prop} (ro : Option Nat) (m : Nat) (hd : ∀ c, o.op ≠ .defer c) (h : o.wp P a w next Q) : o.wpIn (Fw ro) m P a w next Q := by
  unfold Oper.wpIn
  unfold Oper.wp at h
  rw [Oper.semAt_eq _ _ _ hd]
  refine ⟨fun _ _ => trivial, ?_⟩
  generalize (execOp a.eval o).run P w = r at h
  cases r with
  | ok x w' =>
    cases x <;> simp only [Oper.upon, Oper.uponIn] at h ⊢
    case value => exact h
    case skip => exact h
    case defer => exact h
    case enter f args => exact ⟨(fun h => by cases h), callsIn_Fw ro h⟩
    case row => exact ⟨(fun h => by cases h), rowsIn_wide ro h⟩
  | halt x w' => cases x <;> simp only [Oper.upon, Oper.uponIn] at h ⊢; exact h

def dstOk (N : Nat) : Option Nat → Prop | some d => d < N | none => True

theorem Holds.put {Im : Nat → Prop} {φ : Emb} {s : St} {B : Nat} {w : World} {F : Fr} {a : Act} (h : Holds Im φ s B w F a) {x : AV} {v : Value} (hx : rel Im φ s B w x v) {d : Option Nat} (hd : dstOk a.tmps.size d) :
    Holds Im φ s B w (updO F d x) (a.put d v) := by
  cases d with
  | none => exact h
  | some d =>
    intro i
    simp only [updO, upd, Act.put]
    by_cases e : i = d
    · subst e
      rw [if_pos rfl]
      have : i < a.tmps.size := hd
      simpa [Array.getD_eq_getD_getElem?, this] using hx
    · rw [if_neg e]
      have := h i
      simpa [Array.getD_eq_getD_getElem?, Array.getElem?_setIfInBounds_ne (Ne.symm e)] using this
theorem Holds.step {Im : Nat → Prop} {φ φ' : Emb} {s s' : St} {B : Nat} {w w' : World} {F : Fr} {a : Act} (h : Holds Im φ s B w F a) (hs : Step B φ s w φ' s' w') : Holds Im φ' s' B w' F a := fun i => rel_step hs _ _ (h i)
theorem put_size (a : Act) (d : Option Nat) (v : Value) : (a.put d v).tmps.size = a.tmps.size := by cases d <;> simp [Act.put]
theorem put_defers' (a : Act) (d : Option Nat) (v : Value) : (a.put d v).defers = a.defers := by cases d <;> rfl

/-- What may be told in place of frame and state, with nothing done. -/
def Weak (F : Fr) (s : St) (F' : Fr) (s' : St) : Prop := ∀ (N : En) (Im : Nat → Prop) (φ0 : Emb) (s0 : St) (w0 : World) (B : Nat) (φ : Emb) (a : Act) (w : World), Sim N Im φ0 s0 w0 B φ F s a w → ∃ φ', Sim N Im φ0 s0 w0 B φ' F' s' a w
theorem Weak.refl (F : Fr) (s : St) : Weak F s F s := fun _ _ _ _ _ _ φ _ _ h => ⟨φ, h⟩
theorem Weak.trans {F F1 F2 : Fr} {s s1 s2 : St} (h : Weak F s F1 s1) (k : Weak F1 s1 F2 s2) : Weak F s F2 s2 := fun N Im φ0 s0 w0 B φ a w hS => by
  obtain ⟨φ1, h1⟩ := h N Im φ0 s0 w0 B φ a w hS
  exact k N Im φ0 s0 w0 B φ1 a w h1
theorem Weak.le {F F' : Fr} {s : St} (h : ∀ i, (F i).le (F' i)) : Weak F s F' s := fun _ _ _ _ _ _ φ _ _ hS => ⟨φ, ⟨fun i => le_ok _ _ _ (h i) (hS.holds i), hS.size, hS.defers, hS.inv, hS.step⟩⟩
def Wk (I : Fr → St → Prop) (F : Fr) (s : St) : Prop := ∃ F1 s1, Weak F s F1 s1 ∧ I F1 s1
theorem Wk.here {I : Fr → St → Prop} {F : Fr} {s : St} (h : I F s) : Wk I F s := ⟨F, s, Weak.refl F s, h⟩
theorem Wk.by {I : Fr → St → Prop} {F F1 : Fr} {s s1 : St} (h : Weak F s F1 s1) (k : Wk I F1 s1) : Wk I F s := by
  obtain ⟨F2, s2, h1, h2⟩ := k
  exact ⟨F2, s2, h.trans h1, h2⟩
theorem Wk.mono {I J : Fr → St → Prop} {F : Fr} {s : St} (h : Wk I F s) (k : ∀ F s, I F s → J F s) : Wk J F s := by
  obtain ⟨F2, s2, h1, h2⟩ := h
  exact ⟨F2, s2, h1, k _ _ h2⟩
/-- What a function does, from values that read as args, in a state s. -/
def Enters (P : Program) (f : Nat) : Prop := ∀ args w, (callFunc f args).run P w = .ok (.enter f args) w
def Fsound (P : Program) (f : Nat) (s : St) (args : List AV) (R : St → AV → Prop) : Prop :=
  Enters P f ∧ ∀ Im φ B w vals, Inv Im φ s B w → relL Im φ s B w args vals → Calls P f vals.toArray w fun e w' => ∃ φ' s' r v, e = .returned v ∧ Step B φ s w φ' s' w' ∧ Inv Im φ' s' B w' ∧ rel Im φ' s' B w' r v ∧ R s' r
/-- The same, and it changes nothing that was there. -/
def Fclean (P : Program) (f : Nat) (s : St) (args : List AV) (R : St → AV → Prop) : Prop :=
  Enters P f ∧ ∀ Im φ B w vals, Inv Im φ s B w → relL Im φ s B w args vals → Calls P f vals.toArray w fun e w' => ∃ φ' s' r v, e = .returned v ∧ Step B φ s w φ' s' w' ∧ Inv Im φ' s' B w' ∧ rel Im φ' s' B w' r v ∧ R s' r ∧ Below w.heap.size w w'
theorem Fclean.sound {P : Program} {f : Nat} {s : St} {args : List AV} {R : St → AV → Prop} (h : Fclean P f s args R) : Fsound P f s args R :=
  ⟨h.1, fun Im φ B w vals h1 h2 => (h.2 Im φ B w vals h1 h2).mono fun _ _ ⟨φ', s', r, v, k1, k2, k3, k4, k5, _⟩ => ⟨φ', s', r, v, k1, k2, k3, k4, k5⟩⟩

/-- One operation's value, where no Go function is called and nothing is stored. -/
def ev (T : Tab) (F : Fr) (s : St) (op : Op) : Option (AV × St) :=
  match op with
  | .load t a => (loadAV T s t (look F a)).map fun x => (x, s)
  | .alloc t => evE T F s (.alloc t)
  | .box t x => evE T F s (.box t x)
  | .buildSlice t n p => evE T F s (.buildSlice t n p)
  | .makeSlice t l c => evE T F s (.makeSlice t l c)
  | .makeMap t none => makeMapAV T s t
  | .lookup t m k ok => (lookupAV T s t (look F m) (look F k) ok).map fun x => (x, s)
  | .mapEntry t m k => mapEntryAV T s t (look F m) (look F k)
  | .call c => match c.callee with
    | .builtin .append => evE T F s (.call c)
    | .builtin .clear => match c.args.toList, c.argTypes.toList with
      | [x], [t] => clearAV T s t (look F x)
      | _, _ => none
    | _ => (evP T F s (.call c)).map fun x => (x, s)
  | .convert a b x => (match convAV T a b (look F x) with | some y => some y | none => bytesAV T s a b (look F x)).map fun x => (x, s)
  | op => (evP T F s op).map fun x => (x, s)

/-- A value that is known, then what follows. -/
def bindO {α : Type} (o : Option α) (k : α → Prop) : Prop := match o with | some x => k x | none => False
theorem bindO_some {α : Type} (x : α) (k : α → Prop) : bindO (some x) k = k x := rfl
theorem bindO_spec {α : Type} {o : Option α} {k : α → Prop} (h : bindO o k) : ∃ x, o = some x ∧ k x := by
  cases o with
  | none => exact h.elim
  | some x => exact ⟨x, rfl, h⟩
theorem bindO_congr {α : Type} {o o' : Option α} (h : o = o') (k : α → Prop) : bindO o k = bindO o' k := by rw [h]
/-- A test, then two ways. -/
def condP (x : AV) (A B : Prop) : Prop := match x with | .bool b => (b = true → A) ∧ (b = false → B) | .ub => A ∧ B | _ => False
theorem condP_true (A B : Prop) : condP (.bool true) A B = A := by simp [condP]
theorem condP_false (A B : Prop) : condP (.bool false) A B = B := by simp [condP]
theorem condP_mk {b : Bool} {A B : Prop} (h : b = true → A) (h' : b = false → B) : condP (.bool b) A B := ⟨h, h'⟩
theorem condP_spec {x : AV} {A B : Prop} (h : condP x A B) {Im : Nat → Prop} {φ : Emb} {s : St} {n : Nat} {w : World} {v : Value} (hr : rel Im φ s n w x v) : ∃ b, v = .bool b ∧ (b = true → A) ∧ (b = false → B) := by
  cases x with
  | bool b => simp only [rel] at hr; exact ⟨b, hr, h.1, h.2⟩
  | ub => simp only [rel] at hr; obtain ⟨b, hr⟩ := hr; exact ⟨b, hr, fun _ => h.1, fun _ => h.2⟩
  | _ => exact h.elim
theorem condP_mono {x : AV} {A B A' B' : Prop} (h1 : A → A') (h2 : B → B') (h : condP x A B) : condP x A' B' := by
  cases x with
  | bool b => exact ⟨fun e => h1 (h.1 e), fun e => h2 (h.2 e)⟩
  | ub => exact ⟨h1 h.1, h2 h.2⟩
  | _ => exact h.elim
theorem condP_ub {A B : Prop} (h1 : A) (h2 : B) : condP .ub A B := ⟨h1, h2⟩
theorem condP_congr {x x' : AV} (h : x = x') (A B : Prop) : condP x A B = condP x' A B := by rw [h]
/-- A call of function g, then what follows. -/
def callP (P : Program) (g : Nat) (s : St) (args : List AV) (K : St → AV → Prop) : Prop := ∃ R, Fsound P g s args R ∧ ∀ s' r, R s' r → K s' r
theorem callP_congr {P : Program} {g g' : Nat} {s s' : St} {args args' : List AV} (h1 : g = g') (h2 : s = s') (h3 : args = args') (K : St → AV → Prop) : callP P g s args K = callP P g' s' args' K := by rw [h1, h2, h3]
def fnOf : AV → Option (Nat × List AV) | .fn g caps => some (g, caps) | _ => none

def AOp (P : Program) (T : Tab) (N : En) (o : Oper) (F : Fr) (s : St) (K : Fr → St → Prop) : Prop :=
  match o.op with
  | .store t a x => o.dst = none ∧ bindO (storeAV T s t (look F a) (look F x)) fun s' => K F s'
  | .mapUpdate t m k x => o.dst = none ∧ bindO (mapUpdateAV T s t (look F m) (look F k) (look F x)) fun s' => K F s'
  | .insert t m k x => o.dst = none ∧ bindO (mapUpdateAV T s t (look F m) (look F k) (look F x)) fun s' => K F s'
  | .entryStore t m i x => o.dst = none ∧ bindO (entryStoreAV T s t (look F m) (look F i) (look F x)) fun s' => K F s'
  | .call c => match c.callee with
    | .value f => dstOk N.n o.dst ∧ (Wk (fun F s => bindO (fnOf (look F f)) fun p => callP P p.1 s (c.args.toList.map (look F) ++ p.2) fun s' r => K (updO F o.dst r) s') F s ∨ ∃ l R, look F f = .yld l ∧ N.Y l s (c.args.toList.map (look F)) R ∧ ∀ s' r, R s' r → K (updO F o.dst r) s')
    | _ => dstOk N.n o.dst ∧ bindO (ev T F s (.call c)) fun p => K (updO F o.dst p.1) p.2
  | op => dstOk N.n o.dst ∧ bindO (ev T F s op) fun p => K (updO F o.dst p.1) p.2

def gslot (ops : Array Oper) (j : Nat) : Option Nat := (ops[j]?).bind (·.dst)
/-- A guard: the operation is done, or left out; what a left-out guard says leaves it out, too. -/
def guardP (x : AV) (b : Bool) (A B : Prop) : Prop := match x with | .bool v => (v = b → A) ∧ (v = (!b) → B) | .ub => A ∧ B | .tup _ => B | _ => False
def AGuard (N : En) (ops : Array Oper) (o : Oper) (F : Fr) (run skip : Prop) : Prop :=
  match o.guard with
  | none => run
  | some (j, b) => bindO (gslot ops j) fun d => d < N.n ∧ guardP (F d) b run (dstOk N.n o.dst ∧ skip)
def AOps (P : Program) (T : Tab) (N : En) (ops : Array Oper) (K : Fr → St → Prop) : List Oper → Fr → St → Prop
  | [], F, s => K F s
  | o :: rest, F, s => AGuard N ops o F (AOp P T N o F s (AOps P T N ops K rest)) (AOps P T N ops K rest (updO F o.dst (.tup [])) s)

section
variable {P : Program} {T : Tab} (hT : TabOk P T) {N : En} {Im : Nat → Prop} {φ0 : Emb} {s0 : St} {w0 : World} {B : Nat} {φ : Emb} {F : Fr} {s : St} {a : Act} {w : World}
include hT
/-- 'ev' is sound. -/
theorem ev_ok (hS : Sim N Im φ0 s0 w0 B φ F s a w) {o : Oper} {x : AV} {s' : St} (h : ev T F s o.op = some (x, s')) :
    ∃ φ' v w', (execOp a.eval o).run P w = .ok (.value v) w' ∧ Step B φ s w φ' s' w' ∧ Inv Im φ' s' B w' ∧ rel Im φ' s' B w' x v := by
  have hp : ∀ y, (evP T F s o.op).map (fun x => (x, s)) = some (y, s') → y = x → ∃ φ' v w', (execOp a.eval o).run P w = .ok (.value v) w' ∧ Step B φ s w φ' s' w' ∧ Inv Im φ' s' B w' ∧ rel Im φ' s' B w' x v := by
    intro y hy e
    subst e
    obtain ⟨z, hz, he⟩ := Option.map_eq_some_iff.1 hy
    simp only [Prod.mk.injEq] at he
    obtain ⟨rfl, rfl⟩ := he
    obtain ⟨v, h1, h2⟩ := evP_ok hT hS.holds hz
    exact ⟨φ, v, w, h1 w, Step.refl .., hS.inv, h2⟩
  have he : evE T F s o.op = some (x, s') → ∃ φ' v w', (execOp a.eval o).run P w = .ok (.value v) w' ∧ Step B φ s w φ' s' w' ∧ Inv Im φ' s' B w' ∧ rel Im φ' s' B w' x v := by
    intro hy
    obtain ⟨φ', v, w', h1, h2, h3, h4, _⟩ := evE_ok hT hS.inv hS.holds hy
    exact ⟨φ', v, w', h1, h2, h3, h4⟩
  obtain ⟨dst, op, ty, pos, after, guard⟩ := o
  simp only at h hp he
  cases op with
  | load t p =>
    simp only [ev] at h
    obtain ⟨z, hz, he⟩ := Option.map_eq_some_iff.1 h
    simp only [Prod.mk.injEq] at he
    obtain ⟨rfl, rfl⟩ := he
    obtain ⟨v, h1, h2⟩ := loadAV_ok hT hS.inv hz (look_ok hS.holds p)
    refine ⟨φ, v, w, ?_, Step.refl .., hS.inv, h2⟩
    simp [execOp, h1 w (Below.refl _ _)]
  | alloc t => exact he h
  | box t p => exact he h
  | buildSlice t n p => exact he h
  | makeSlice t l c => exact he h
  | makeMap t r =>
    cases r with
    | none =>
      obtain ⟨φ', v, w', h1, h2, h3, h4, _⟩ := makeMap_ok hT hS.inv h
      refine ⟨φ', v, w', ?_, h2, h3, h4⟩
      simp [execOp, h1]
    | some r => exact hp _ h rfl
  | lookup t m k ok =>
    simp only [ev] at h
    obtain ⟨z, hz, he⟩ := Option.map_eq_some_iff.1 h
    simp only [Prod.mk.injEq] at he
    obtain ⟨rfl, rfl⟩ := he
    obtain ⟨v, h1, h2⟩ := lookup_ok hT hS.inv hz (look_ok hS.holds m) (look_ok hS.holds k)
    refine ⟨φ, v, w, ?_, Step.refl .., hS.inv, h2⟩
    simp [execOp, h1 w (Below.refl _ _)]
  | mapEntry t m k =>
    simp only [ev] at h
    obtain ⟨v, w', h1, h2, h3, h4⟩ := mapEntry_ok hT hS.inv h (look_ok hS.holds m) (look_ok hS.holds k)
    refine ⟨φ, v, w', ?_, h2, h3, h4⟩
    simp [execOp, h1]
  | call c =>
    obtain ⟨callee, ⟨args⟩, ⟨ats⟩⟩ := c
    simp only [ev] at h
    split at h
    · exact he h
    · split at h
      · rename_i p t
        obtain ⟨v, w', h1, h2, h3, h4⟩ := clearAV_ok (ty := ty) hT hS.inv h (look_ok hS.holds p)
        refine ⟨φ, v, w', ?_, h2, h3, h4⟩
        simp [execOp, resolve, invoke, builtin, h1]
      · cases h
    · exact hp _ h rfl
  | convert a b p =>
    simp only [ev] at h
    split at h
    · rename_i y hy
      refine hp _ ?_ rfl
      simp only [evP, hy]
      exact h
    · obtain ⟨z, hz, he⟩ := Option.map_eq_some_iff.1 h
      simp only [Prod.mk.injEq] at he
      obtain ⟨rfl, rfl⟩ := he
      obtain ⟨v, h1, h2⟩ := bytesAV_ok hT hS.inv hz (look_ok hS.holds p)
      refine ⟨φ, v, w, ?_, Step.refl .., hS.inv, h2⟩
      simp [execOp, h1 w (Below.refl _ _)]
  | _ => exact hp _ h rfl

omit hT in
theorem Sim.put (hS : Sim N Im φ0 s0 w0 B φ F s a w) {φ' : Emb} {s' : St} {w' : World} (h1 : Step B φ s w φ' s' w') (h2 : Inv Im φ' s' B w') {x : AV} {v : Value} (h3 : rel Im φ' s' B w' x v) {d : Option Nat} (hd : dstOk N.n d) :
    Sim N Im φ0 s0 w0 B φ' (updO F d x) s' (a.put d v) w' :=
  ⟨(hS.holds.step h1).put h3 (by rw [hS.size]; exact hd), by rw [put_size, hS.size], by rw [put_defers']; exact hS.defers.step h1, h2, hS.step.trans h1⟩

theorem AOp_ok {o : Oper} {K : Fr → St → Prop} (hY : N.Y = noY) (hS : Sim N Im φ0 s0 w0 B φ F s a w) (h : AOp P T N o F s K) {next : Act → World → Prop} {Q : Exit → Act → World → Prop}
    (hn : ∀ φ F s a w, Sim N Im φ0 s0 w0 B φ F s a w → K F s → next a w) : o.wp P a w next Q := by
  unfold Oper.wp
  have gen : ∀ x s', ev T F s o.op = some (x, s') → dstOk N.n o.dst → K (updO F o.dst x) s' → o.upon P a next Q ((execOp a.eval o).run P w) := by
    intro x s' h1 h2 h3
    obtain ⟨φ', v, w', k1, k2, k3, k4⟩ := ev_ok hT hS h1
    rw [k1, Oper.upon_value]
    exact hn _ _ _ _ _ (hS.put k2 k3 k4 h2) h3
  unfold AOp at h
  split at h
  · rename_i t p q hop
    obtain ⟨hd, h⟩ := h
    obtain ⟨s', h1, h2⟩ := bindO_spec h
    obtain ⟨w', k1, k2, k3⟩ := storeAV_ok hT hS.inv h1 (look_ok hS.holds p) (look_ok hS.holds q)
    have hrun : (execOp a.eval o).run P w = .ok .skip w' := by simp [execOp, hop, k1]
    rw [hrun, Oper.upon_skip, hd]
    exact hn φ F s' a w' ⟨hS.holds.step k2, hS.size, hS.defers.step k2, k3, hS.step.trans k2⟩ h2
  · rename_i t m k x hop
    obtain ⟨hd, h⟩ := h
    obtain ⟨s', h1, h2⟩ := bindO_spec h
    obtain ⟨w', k1, k2, k3⟩ := mapUpdate_ok hT hS.inv h1 (look_ok hS.holds m) (look_ok hS.holds k) (look_ok hS.holds x)
    have hrun : (execOp a.eval o).run P w = .ok .skip w' := by simp [execOp, hop, k1]
    rw [hrun, Oper.upon_skip, hd]
    exact hn φ F s' a w' ⟨hS.holds.step k2, hS.size, hS.defers.step k2, k3, hS.step.trans k2⟩ h2
  · rename_i t m k x hop
    obtain ⟨hd, h⟩ := h
    obtain ⟨s', h1, h2⟩ := bindO_spec h
    obtain ⟨w', k1, k2, k3⟩ := mapUpdate_ok hT hS.inv h1 (look_ok hS.holds m) (look_ok hS.holds k) (look_ok hS.holds x)
    have hrun : (execOp a.eval o).run P w = .ok .skip w' := by simp [execOp, hop, k1]
    rw [hrun, Oper.upon_skip, hd]
    exact hn φ F s' a w' ⟨hS.holds.step k2, hS.size, hS.defers.step k2, k3, hS.step.trans k2⟩ h2
  · rename_i t m i x hop
    obtain ⟨hd, h⟩ := h
    obtain ⟨s', h1, h2⟩ := bindO_spec h
    obtain ⟨w', k1, k2, k3⟩ := entryStore_ok hT hS.inv h1 (look_ok hS.holds m) (look_ok hS.holds i) (look_ok hS.holds x)
    have hrun : (execOp a.eval o).run P w = .ok .skip w' := by simp [execOp, hop, k1]
    rw [hrun, Oper.upon_skip, hd]
    exact hn φ F s' a w' ⟨hS.holds.step k2, hS.size, hS.defers.step k2, k3, hS.step.trans k2⟩ h2
  · rename_i c hop
    split at h
    · rename_i f hc
      obtain ⟨h3, h⟩ := h
      rw [hY] at h
      obtain ⟨F1, s1, hW, h⟩ := h.resolve_right (fun ⟨_, _, _, h, _⟩ => h)
      obtain ⟨φ1, hS⟩ := hW _ _ _ _ _ _ _ _ _ hS
      obtain ⟨p, hp, R, ⟨hen, h2⟩, h4⟩ := bindO_spec h
      have h1 : look F1 f = .fn p.1 p.2 := by
        unfold fnOf at hp
        split at hp
        · rename_i g caps hg; injection hp with hp; subst hp; exact hg
        · cases hp
      have hf := look_ok hS.holds f
      rw [h1] at hf
      simp only [rel] at hf
      obtain ⟨cs, hcs, hrc⟩ := hf
      have hargs : relL Im φ1 s1 B w (c.args.toList.map (look F1) ++ p.2) (c.args.toList.map a.eval ++ cs) := relL_append _ _ _ _ (relL_map hS.holds _) hrc
      have hcall := h2 Im φ1 B w _ hS.inv hargs
      have hrun : (execOp a.eval o).run P w = .ok (.enter p.1 (c.args.toList.map a.eval ++ cs).toArray) w := by
        have : (c.args.toList.map a.eval ++ cs).toArray = #[] ++ c.args.map a.eval ++ cs.toArray := by
          apply Array.ext'
          simp
        rw [this]
        simp [execOp, hop, resolve, hc, hcs, Deferred.ofValue, invoke]
        exact hen _ _
      rw [hrun, Oper.upon_enter]
      refine hcall.mono fun e w' hh => ?_
      obtain ⟨φ', s', r, v, rfl, k1, k2, k3, k4⟩ := hh
      exact hn _ _ _ _ _ (hS.put k1 k2 k3 h3) (h4 s' r k4)
    · obtain ⟨h1, h⟩ := h
      obtain ⟨p, h2, h3⟩ := bindO_spec h
      exact gen p.1 p.2 (by rw [hop]; exact h2) h1 h3
  · obtain ⟨h1, h⟩ := h
    obtain ⟨p, h2, h3⟩ := bindO_spec h
    exact gen p.1 p.2 h2 h1 h3

omit hT in
theorem yielded_of {ops : Array Oper} {j d : Nat} {v : Bool} (hg : gslot ops j = some d) (hS : Sim N Im φ0 s0 w0 B φ F s a w) (hd : d < N.n) (hF : F d = .bool v) : yielded ops a.tmps j = some v := by
  have h := hS.holds d
  rw [hF] at h
  simp only [rel] at h
  have hlt : d < a.tmps.size := by rw [hS.size]; exact hd
  unfold gslot at hg
  unfold yielded
  rw [hg]
  simp [hlt] at h
  simp [hlt, h]

omit hT in
theorem yielded_ub {ops : Array Oper} {j d : Nat} (hg : gslot ops j = some d) (hS : Sim N Im φ0 s0 w0 B φ F s a w) (hd : d < N.n) (hF : F d = .ub) : ∃ v, yielded ops a.tmps j = some v := by
  have h := hS.holds d
  rw [hF] at h
  simp only [rel] at h
  obtain ⟨v, h⟩ := h
  have hlt : d < a.tmps.size := by rw [hS.size]; exact hd
  refine ⟨v, ?_⟩
  unfold gslot at hg
  unfold yielded
  rw [hg]
  simp [hlt] at h
  simp [hlt, h]

omit hT in
theorem AGuard_ok {ops : Array Oper} {o : Oper} {run skip : Prop} (hS : Sim N Im φ0 s0 w0 B φ F s a w) (h : AGuard N ops o F run skip) :
    (Region.wanted o (yielded ops a.tmps) = true ∧ run) ∨ (Region.wanted o (yielded ops a.tmps) = false ∧ dstOk N.n o.dst ∧ skip) := by
  unfold AGuard at h
  split at h
  · rename_i hg
    exact .inl ⟨by simp [Region.wanted, hg], h⟩
  · rename_i j b hg
    obtain ⟨d, h1, h2, h3⟩ := bindO_spec h
    cases hF : F d with
    | bool v =>
      rw [hF] at h3
      have hy := yielded_of h1 hS h2 hF
      by_cases e : v = b
      · exact .inl ⟨by simp [Region.wanted, hg, hy, e], h3.1 e⟩
      · exact .inr ⟨by simp [Region.wanted, hg, hy, e], h3.2 (by cases v <;> cases b <;> simp_all)⟩
    | ub =>
      rw [hF] at h3
      obtain ⟨v, hy⟩ := yielded_ub h1 hS h2 hF
      by_cases e : v = b
      · exact .inl ⟨by simp [Region.wanted, hg, hy, e], h3.1⟩
      · exact .inr ⟨by simp [Region.wanted, hg, hy, e], h3.2⟩
    | tup xs =>
      rw [hF] at h3
      have hh := hS.holds d
      rw [hF] at hh
      simp only [rel] at hh
      obtain ⟨cs, hc, _⟩ := hh
      have hlt : d < a.tmps.size := by rw [hS.size]; exact h2
      have hy : yielded ops a.tmps j = none := by
        unfold gslot at h1
        unfold yielded
        rw [h1]
        simp [hlt] at hc
        simp [hlt, hc]
      exact .inr ⟨by simp [Region.wanted, hg, hy], h3⟩
    | _ => rw [hF] at h3; exact h3.elim
/-- What is asked of the calls of yield: each is a round that may come wherever a step from the frame's start leads. -/
def YOk (P : Program) (ro : Option Nat) (Y : Nat → St → List AV → (St → AV → Prop) → Prop) (Im : Nat → Prop) (φ0 : Emb) (s0 : St) (w0 : World) (B : Nat) : Prop :=
  ∀ l s args R, Y l s args R → ro = none ∧ ∀ φ w vals, Step B φ0 s0 w0 φ s w → Inv Im φ s B w → relL Im φ s B w args vals → ∀ m, YieldAt Fence.wide m P l vals.toArray w fun e w' =>
    ∃ φ' s' r v, e = .returned v ∧ Step B φ s w φ' s' w' ∧ Inv Im φ' s' B w' ∧ rel Im φ' s' B w' r v ∧ R s' r
omit hT in
theorem YOk.no {ro : Option Nat} : YOk P ro noY Im φ0 s0 w0 B := fun _ _ _ _ h => h.elim
omit hT in
theorem AOp.ndefer {o : Oper} {K : Fr → St → Prop} (h : AOp P T N o F s K) : ∀ c, o.op ≠ .defer c := by
  intro c hc
  unfold AOp at h
  rw [hc] at h
  simp only [ev, evP] at h
  exact h.2
omit hT in
theorem Sim.noY (hS : Sim N Im φ0 s0 w0 B φ F s a w) : Sim N.noY Im φ0 s0 w0 B φ F s a w := ⟨hS.holds, hS.size, hS.defers, hS.inv, hS.step⟩
omit hT in
theorem Sim.ofNoY (hS : Sim N.noY Im φ0 s0 w0 B φ F s a w) : Sim N Im φ0 s0 w0 B φ F s a w := ⟨hS.holds, hS.size, hS.defers, hS.inv, hS.step⟩
theorem AOp_okIn {o : Oper} {K : Fr → St → Prop} {ro : Option Nat} (hY : YOk P ro N.Y Im φ0 s0 w0 B) (m : Nat) (hS : Sim N Im φ0 s0 w0 B φ F s a w) (h : AOp P T N o F s K) {next : Act → World → Prop} {Q : Exit → Act → World → Prop}
    (hn : ∀ φ F s a w, Sim N Im φ0 s0 w0 B φ F s a w → K F s → next a w) : o.wpIn (Fw ro) m P a w next Q := by
  have old : AOp P T N.noY o F s K → o.wpIn (Fw ro) m P a w next Q := fun h =>
    Oper.wpIn_of ro m h.ndefer (AOp_ok hT (N := N.noY) rfl hS.noY h fun φ F s a w hS hK => hn φ F s a w hS.ofNoY hK)
  have hnd := h.ndefer
  unfold AOp at h
  split at h
  · rename_i t p q hop
    refine old ?_
    unfold AOp
    rw [hop]
    exact h
  · rename_i t m k x hop
    refine old ?_
    unfold AOp
    rw [hop]
    exact h
  · rename_i t m k x hop
    refine old ?_
    unfold AOp
    rw [hop]
    exact h
  · rename_i t m k x hop
    refine old ?_
    unfold AOp
    rw [hop]
    exact h
  · rename_i c hop
    split at h
    · rename_i f hc
      obtain ⟨h1, h2 | ⟨l, R, h2, h3, h4⟩⟩ := h
      · refine old ?_
        unfold AOp
        rw [hop]
        simp only
        rw [hc]
        exact ⟨h1, .inl h2⟩
      · obtain ⟨rfl, hy⟩ := hY l s _ R h3
        have hf := look_ok hS.holds f
        rw [h2] at hf
        simp only [rel] at hf
        obtain ⟨fn, tmps, assign, body, hyl, hround⟩ := hy φ w _ hS.step hS.inv (relL_map hS.holds c.args.toList) (m - 1)
        unfold Oper.wpIn
        rw [Oper.semAt_eq _ _ _ hnd]
        refine ⟨fun _ _ => trivial, ?_⟩
        have hrun : (execOp a.eval o).run P w = .ok (.round l fn tmps assign body) w := by
          have e : c.args.map a.eval = (c.args.toList.map a.eval).toArray := by apply Array.ext'; simp
          rw [← e] at hyl
          simp [execOp, hop, resolve, hc, hf, Deferred.ofValue, invoke, hyl]
        rw [hrun, Oper.uponIn_round]
        refine ⟨(fun h => by cases h), hround.mono fun e w' hh => ?_⟩
        obtain ⟨φ', s', r, v, rfl, k1, k2, k3, k4⟩ := hh
        exact hn _ _ _ _ _ (hS.put k1 k2 k3 h1) (h4 s' r k4)
    · rename_i hne
      refine old ?_
      unfold AOp
      rw [hop]
      simp only
      exact h
  · rename_i hn1 hn2 hn3 hn4 hn5
    refine old ?_
    unfold AOp
    split
    · rename_i t p q hop; exact absurd hop (hn1 t p q)
    · rename_i t p q r hop; exact absurd hop (hn2 t p q r)
    · rename_i t p q r hop; exact absurd hop (hn3 t p q r)
    · rename_i t p q r hop; exact absurd hop (hn4 t p q r)
    · rename_i c hop; exact absurd hop (hn5 c)
    · exact h
theorem AOps_ok {ops : Array Oper} {K : Fr → St → Prop} {Q : Exit → Act → World → Prop} {ro : Option Nat} (hY : YOk P ro N.Y Im φ0 s0 w0 B) (m : Nat) (hn : ∀ φ F s a w, Sim N Im φ0 s0 w0 B φ F s a w → K F s → Q .normal a w) :
    ∀ (l : List Oper) (k : Nat), (∀ i, l[i]? = ops[k + i]?) → ∀ (φ : Emb) (F : Fr) (s : St) (a : Act) (w : World), Sim N Im φ0 s0 w0 B φ F s a w → AOps P T N ops K l F s → wpOpsIn (Fw ro) m P ops Q (List.range' k l.length) a w
  | [], k, hl, φ, F, s, a, w, hS, h => hn φ F s a w hS h
  | o :: rest, k, hl, φ, F, s, a, w, hS, h => by
    simp only [AOps] at h
    have ho : ops[k]? = some o := by have := hl 0; simpa using this.symm
    have hl' : ∀ i, rest[i]? = ops[(k + 1) + i]? := fun i => by have := hl (i + 1); rw [List.getElem?_cons_succ] at this; rw [this]; congr 1; omega
    simp only [List.length_cons, List.range'_succ, wpOpsIn, ho]
    have run : AOp P T N o F s (AOps P T N ops K rest) → o.wpIn (Fw ro) m P a w (wpOpsIn (Fw ro) m P ops Q (List.range' (k + 1) rest.length)) Q := fun h => AOp_okIn hT hY m hS h (fun φ F s a w h1 h2 => AOps_ok hY m hn rest (k + 1) hl' φ F s a w h1 h2)
    rcases AGuard_ok hS h with ⟨hw, h⟩ | ⟨hw, k1, k2⟩
    · rw [if_pos hw]
      exact run h
    · rw [if_neg (by rw [hw]; simp)]
      exact ⟨fun _ _ => trivial, AOps_ok hY m hn rest (k + 1) hl' φ _ s _ w (hS.put (Step.refl ..) hS.inv (x := .tup []) (v := undef) (by simp [rel, relL, undef]) k1) k2⟩
theorem AOps_all {ops : Array Oper} {K : Fr → St → Prop} {Q : Exit → Act → World → Prop} {ro : Option Nat} (hY : YOk P ro N.Y Im φ0 s0 w0 B) (m : Nat) (hn : ∀ φ F s a w, Sim N Im φ0 s0 w0 B φ F s a w → K F s → Q .normal a w) (φ : Emb) (F : Fr) (s : St) (a : Act) (w : World)
    (hS : Sim N Im φ0 s0 w0 B φ F s a w) (h : AOps P T N ops K ops.toList F s) : wpOpsIn (Fw ro) m P ops Q (List.range ops.size) a w := by
  have := AOps_ok hT hY m hn ops.toList 0 (fun i => by simp) φ F s a w hS h
  rwa [Array.length_toList, ← List.range_eq_range'] at this
end
end Go.Proofs.YtmcfgljdpjalfaaV
