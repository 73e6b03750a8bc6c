/- Draws: no run of an instruction lowers how many were made. -/
import Derived.Calls
set_option linter.unusedVariables false
set_option linter.unusedSimpArgs false
set_option linter.constructorNameAsVariable false
set_option linter.unusedSectionVars false
namespace Go.Proofs.YtmcfgljdpjalfaaV
theorem ask_drawn {α : Type} : ∀ (x : Ask α) (w : World), w.drawn ≤ (w.ask x).2.drawn
  | .done a, w => Nat.le_refl _
  | .ask what range k, w => by
    unfold World.ask
    dsimp only
    split
    · exact ask_drawn (k 0) w
    · exact Nat.le_trans (Nat.le_succ _) (ask_drawn (k _) { w with drawn := w.drawn + 1 })
theorem sys_drawn (w : World) (c : Sys) : w.drawn ≤ (w.sys c).2.drawn := by
  have := ask_drawn (Kernel.perform c w.os) w
  unfold World.sys
  generalize w.ask (Kernel.perform c w.os) = x at this ⊢
  split
  · exact Nat.le_refl _
  · exact this
theorem bind_ok {ε α β : Type} {x : Except ε α} {f : α → Except ε β} {r : β} (h : x.bind f = .ok r) : ∃ a, x = .ok a ∧ f a = .ok r := by
  cases x with
  | ok a => exact ⟨a, rfl, h⟩
  | error e => cases h
theorem viewStore_drawn {p : Program} {w : World} {at_ : Addr} {u : TypeId} {k : Addr} {v : Value} {b : Bool} {r : World × List Addr} (h : w.viewStore p at_ u k v b = .ok r) : r.1.drawn = w.drawn := by
  unfold World.viewStore at h
  simp only [bind, pure, Except.pure] at h
  split at h
  · cases h
  · obtain ⟨x, _, h⟩ := bind_ok h
    obtain ⟨c, e, frozen, first, like, cells⟩ := x
    dsimp only at h
    split at h
    · split at h
      · cases h
      · obtain ⟨c', _, h⟩ := bind_ok h
        cases h
        rfl
    · cases h
theorem farStore_drawn {p : Program} {w : World} {a : Addr} {v : Value} {b : Bool} {r : World × List Addr} (h : w.farStore p a v b = .ok r) : r.1.drawn = w.drawn := by
  unfold World.farStore at h
  split at h
  · split at h
    · rename_i h'
      cases h
      exact viewStore_drawn h'
    · cases h
  · cases h
theorem run_drawn {α : Type} {P : Program} : ∀ (m : Sem α) (w : World) (a : α) (w' : World), m.run P w = .ok a w' → w.drawn ≤ w'.drawn := by
  intro m
  induction m with
  | pure a => intro w b w' h; simp only [Sem.run] at h; cases h; exact Nat.le_refl _
  | load m a k ih =>
    intro w b w' h
    simp only [Sem.run] at h
    split at h
    · exact ih _ _ _ _ h
    · split at h
      · exact ih _ _ _ _ h
      · cases h
  | store m a v k ih =>
    intro w b w' h
    cases v <;> simp only [Sem.run] at h <;> first | (cases h; done) | skip
    all_goals
      split at h
      · split at h
        · cases h
        · have k := ih _ _ _ h; exact k
      · split at h
        · rename_i h'
          have := farStore_drawn h'
          have k := ih _ _ _ h
          simp only at this
          omega
        · cases h
  | new o k ih => intro w b w' h; simp only [Sem.run] at h; have k := ih _ _ _ _ h; exact k
  | shape r k ih => intro w b w' h; simp only [Sem.run] at h; have k := ih _ _ _ _ h; exact k
  | freeze a n k ih =>
    intro w b w' h
    simp only [Sem.run] at h
    have k := ih _ _ _ h
    have e : (w.freeze a n).drawn = w.drawn := by unfold World.freeze; repeat' split
                                                  all_goals rfl
    omega
  | frozen a k ih => intro w b w' h; simp only [Sem.run] at h; have k := ih _ _ _ _ h; exact k
  | getObj r k ih =>
    intro w b w' h
    simp only [Sem.run] at h
    split at h
    · cases h
    · exact ih _ _ _ _ h
    · cases h
  | setObj r o k ih =>
    intro w b w' h
    simp only [Sem.run] at h
    split at h
    · cases h
    · have k := ih _ _ _ h; exact k
    · cases h
  | choose q k ih =>
    intro w b w' h
    simp only [Sem.run] at h
    split at h
    · exact ih _ _ _ _ h
    · have := ih _ _ _ _ h
      simp only at this
      omega
  | sys c k ih =>
    intro w b w' h
    simp only [Sem.run] at h
    exact Nat.le_trans (sys_drawn w c) (ih _ _ _ _ h)
  | program k ih => intro w b w' h; simp only [Sem.run] at h; have k := ih _ _ _ _ h; exact k
  | mark m k ih => intro w b w' h; simp only [Sem.run] at h; have k := ih _ _ _ h; exact k
  | halt h => intro w b w' hh; simp only [Sem.run] at hh; cases hh
end Go.Proofs.YtmcfgljdpjalfaaV
