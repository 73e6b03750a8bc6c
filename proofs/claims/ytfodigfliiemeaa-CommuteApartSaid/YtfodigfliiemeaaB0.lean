/- Cells: plain Lean. -/
namespace Go.Proofs.YtfodigfliiemeaaA
/-- A cell: register and value. -/
structure Cell where
  id : Int
  field : Int
  n : Int
  flag : Bool
  text : ByteArray
  ref : Int
deriving DecidableEq
def ordr (a0 a1 b0 b1 : Int) : Int := if a0 = b0 then (if a1 < b1 then -1 else if b1 < a1 then 1 else 0) else if a0 < b0 then -1 else 1
def validId (id : Int) : Bool := decide (1048576 < id) && decide (id < 34603008) && !(id % 1048576 == 0)
/-- Cell i of a list is in its place. -/
def okAt (l : List Cell) (i : Nat) : Bool := match l[i]? with
  | none => true
  | some c => validId c.id && decide (1 ≤ c.field) && decide (c.field < 48) && (match i with | 0 => true | j + 1 => match l[j]? with | some p => decide (ordr p.id p.field c.id c.field < 0) | none => true)
def wrTo (l : List Cell) (k : Nat) : Bool := (List.range k).all (okAt l)
def wrB (l : List Cell) : Bool := wrTo l l.length
theorem wrTo_zero (l : List Cell) : wrTo l 0 = true := rfl
theorem wrTo_succ (l : List Cell) (k : Nat) : wrTo l (k + 1) = (wrTo l k && okAt l k) := by simp [wrTo, List.range_succ]
theorem wrTo_false {l : List Cell} {k n : Nat} (h : okAt l k = false) (hk : k < n) : wrTo l n = false := by
  unfold wrTo
  rw [List.all_eq_false]
  exact ⟨k, List.mem_range.2 hk, by simp [h]⟩
def sameReg (a b : Cell) : Bool := decide (a.id = b.id) && decide (a.field = b.field)
def ahead (a b : Cell) : Bool := decide (ordr a.id a.field b.id b.field < 0)
/-- The value is zero. -/
def zeroV (c : Cell) : Bool := decide (c.n = 0) && !c.flag && decide (c.text = ⟨#[]⟩) && decide (c.ref = 0)
def solid (l : List Cell) : Bool := l.all fun c => !zeroV c
def valB (l : List Cell) : Bool := solid l && wrB l
/-- A register is written. -/
def wr24 (l : List Cell) (c : Cell) : Bool := l.any fun d => sameReg d c
def over : List Cell → List Cell → List Cell
  | [], bs => bs
  | as, [] => as
  | a :: as, b :: bs => if ahead a b then a :: over as (b :: bs) else if sameReg a b then over as (b :: bs) else b :: over (a :: as) bs
termination_by as bs => as.length + bs.length
theorem over_nil (as : List Cell) : over as [] = as := by cases as <;> simp [over]
theorem nil_over (bs : List Cell) : over [] bs = bs := by simp [over]
def rest24 (a b : List Cell) : List Cell := if wrB a && wrB b then a.filter fun c => !wr24 b c else []
def comp24 (a b : List Cell) : List Cell := if wrB a && wrB b then over a b else []
def indep24 (a b : List Cell) : Bool := wrB a && wrB b && decide ((rest24 a b).length = a.length)
/-- One write that is put, alone. -/
def one (c : Cell) : List Cell := if zeroV c then [] else [c]
def putR : List Cell → List Cell → List Cell
  | l, [] => l
  | [], c :: w => one c ++ putR [] w
  | a :: l, c :: w => if ahead a c then a :: putR l (c :: w) else if sameReg a c then one c ++ putR l w else one c ++ putR (a :: l) w
termination_by l w => l.length + w.length
def put (l w : List Cell) : List Cell := if valB l && wrB w then putR l w else []
theorem ordr_zero (a c : Cell) : decide (ordr a.id a.field c.id c.field = 0) = sameReg a c := by
  rw [Bool.eq_iff_iff]
  simp only [sameReg, decide_eq_true_eq, Bool.and_eq_true, ordr]
  constructor
  · intro h
    repeat' split at h
    all_goals first | omega | (simp at h) | (constructor <;> omega)
  · rintro ⟨h1, h2⟩
    simp [h1, h2]
/-- The numbers of a cell are not great. -/
def bnd (c : Cell) : Prop := 0 ≤ c.id ∧ c.id < 1000000000 ∧ 0 ≤ c.field ∧ c.field < 1000000000
def ordI (a b : Cell) : Int := if a.id = b.id then a.field - b.field else a.id - b.id
theorem ordI_neg (a b : Cell) : decide (ordI a b < 0) = ahead a b := by
  unfold ordI ahead ordr
  by_cases e : a.id = b.id
  · by_cases h : a.field < b.field
    · simp only [e, h, if_true]; simp; omega
    · by_cases k : b.field < a.field
      · simp only [e, h, k, if_true, if_false]; simp; omega
      · simp only [e, h, k, if_true, if_false]; simp; omega
  · by_cases h : a.id < b.id
    · simp only [e, h, if_true, if_false]; simp; omega
    · simp only [e, h, if_false]; simp; omega
theorem ordI_pos (a b : Cell) : decide (0 < ordI a b) = ahead b a := by
  rw [← ordI_neg]
  unfold ordI
  by_cases e : a.id = b.id
  · simp only [e, if_true, decide_eq_decide]; omega
  · have e' : ¬ b.id = a.id := fun h => e h.symm
    simp only [e, e', if_false, decide_eq_decide]; omega
theorem wrTo_at {l : List Cell} {n i : Nat} (h : wrTo l n = true) (hi : i < n) : okAt l i = true := List.all_eq_true.1 h i (List.mem_range.2 hi)
theorem wrB_ids {l : List Cell} (h : wrB l = true) {c : Cell} (hc : c ∈ l) : validId c.id = true ∧ 1 ≤ c.field ∧ c.field < 48 := by
  obtain ⟨i, hi, rfl⟩ := List.getElem_of_mem hc
  have := wrTo_at h hi
  simp only [okAt, List.getElem?_eq_getElem hi, Bool.and_eq_true, decide_eq_true_eq] at this
  exact ⟨this.1.1.1, this.1.1.2, this.1.2⟩
theorem wrB_bnd {l : List Cell} (h : wrB l = true) : ∀ c ∈ l, bnd c := fun c hc => by
  obtain ⟨h1, h2, h3⟩ := wrB_ids h hc
  simp only [validId, Bool.and_eq_true, decide_eq_true_eq] at h1
  exact ⟨by omega, by omega, by omega, by omega⟩
theorem valB_wr {l : List Cell} (h : valB l = true) : wrB l = true := (Bool.and_eq_true_iff.1 h).2
/-- What going through two lists does to x. -/
def vis {α : Type} (f1 f2 : Cell → α → α) (f3 : Cell → Cell → α → α) : List Cell → List Cell → α → α
  | [], [], x => x
  | a :: l, [], x => vis f1 f2 f3 l [] (f1 a x)
  | [], b :: m, x => vis f1 f2 f3 [] m (f2 b x)
  | a :: l, b :: m, x => if ahead a b then vis f1 f2 f3 l (b :: m) (f1 a x) else if ahead b a then vis f1 f2 f3 (a :: l) m (f2 b x) else vis f1 f2 f3 l m (f3 a b x)
termination_by l m => l.length + m.length
def indep (a b : List Cell) : Bool := wrB a && wrB b && vis (fun _ x => x) (fun _ x => x) (fun _ _ _ => false) a b true
def comp (a b : List Cell) : List Cell := if wrB a && wrB b then vis (fun c o => o ++ [c]) (fun c o => o ++ [c]) (fun _ d o => o ++ [d]) a b [] else []
def rest (a b : List Cell) : List Cell := if wrB a && wrB b then vis (fun c o => o ++ [c]) (fun _ o => o) (fun _ _ o => o) a b [] else []
def zeroed (c : Cell) : Cell := ⟨c.id, c.field, 0, false, ⟨#[]⟩, 0⟩
def inverse (m w : List Cell) : List Cell := if valB m && wrB w then vis (fun _ o => o) (fun c o => o ++ [zeroed c]) (fun c _ o => o ++ [c]) m w [] else []
def sameV (c d : Cell) : Bool := decide (c.n = d.n) && (decide (c.flag = d.flag) && (decide (c.text = d.text) && decide (c.ref = d.ref)))
def least (m w : List Cell) : List Cell := if valB m && wrB w then vis (fun _ o => o) (fun c o => if zeroV c then o else o ++ [c]) (fun c d o => if sameV c d then o else o ++ [d]) m w [] else []
theorem vis_len (f1 f2 : Cell → List Cell → List Cell) (f3 : Cell → Cell → List Cell → List Cell) (h1 : ∀ c o, (f1 c o).length ≤ o.length + 1) (h2 : ∀ c o, (f2 c o).length ≤ o.length + 1) (h3 : ∀ c d o, (f3 c d o).length ≤ o.length + 1) :
    ∀ (a b o : List Cell), (vis f1 f2 f3 a b o).length ≤ o.length + a.length + b.length
  | [], [], o => by simp [vis]
  | a :: l, [], o => by
    have := vis_len f1 f2 f3 h1 h2 h3 l [] (f1 a o)
    have := h1 a o
    simp [vis] at *
    omega
  | [], b :: m, o => by
    have := vis_len f1 f2 f3 h1 h2 h3 [] m (f2 b o)
    have := h2 b o
    simp [vis] at *
    omega
  | a :: l, b :: m, o => by
    have k1 := vis_len f1 f2 f3 h1 h2 h3 l (b :: m) (f1 a o)
    have k2 := vis_len f1 f2 f3 h1 h2 h3 (a :: l) m (f2 b o)
    have k3 := vis_len f1 f2 f3 h1 h2 h3 l m (f3 a b o)
    have h1 := h1 a o
    have h2 := h2 b o
    have h3 := h3 a b o
    rw [vis]
    split
    · simp at *; omega
    · split <;> simp at * <;> omega
termination_by a b => a.length + b.length
theorem comp_len (a b : List Cell) : (comp a b).length ≤ a.length + b.length := by
  unfold comp
  split
  · have := vis_len (fun c o => o ++ [c]) (fun c o => o ++ [c]) (fun _ d o => o ++ [d]) (by simp) (by simp) (by simp) a b []
    simpa using this
  · simp
theorem rest_len (a b : List Cell) : (rest a b).length ≤ a.length + b.length := by
  unfold rest
  split
  · have := vis_len (fun c o => o ++ [c]) (fun _ o => o) (fun _ _ o => o) (by simp) (by simp) (by simp) a b []
    simpa using this
  · simp
theorem putR_len : ∀ (l w : List Cell), (putR l w).length ≤ l.length + w.length
  | l, [] => by simp [putR]
  | [], c :: w => by
    have := putR_len [] w
    simp [putR, one] at *
    split <;> simp <;> omega
  | a :: l, c :: w => by
    have k1 := putR_len l (c :: w)
    have k2 := putR_len l w
    have k3 := putR_len (a :: l) w
    rw [putR]
    split
    · simp at *; omega
    · split
      · simp only [one]; split <;> simp at * <;> omega
      · simp only [one]; split <;> simp at * <;> omega
termination_by l w => l.length + w.length
theorem put_len (l w : List Cell) : (put l w).length ≤ l.length + w.length := by
  unfold put
  split
  · exact putR_len l w
  · simp
end Go.Proofs.YtfodigfliiemeaaA
