/- The layer coin: what its functions answer, as plain functions on numbers and lists. -/
import Derived.Test.YtoeoneiopcagfaaBase
namespace Go.Proofs.Ytoeoneiopcagfaa
open Go.RowKit

/-- Is it an amount? -/
def okA (n : Int) : Bool := decide (0 ≤ n) && decide (n ≤ 1125899906842624)

theorem okA_iff (n : Int) : okA n = true ↔ 0 ≤ n ∧ n ≤ 1125899906842624 := by simp [okA]

def addF (a b : Int) : Int × Int := if okA a = true ∧ okA b = true ∧ okA (a + b) = true then (a + b, 0) else (0, 2)
def subF (a b : Int) : Int × Int := if okA a = true ∧ okA b = true then (if a < b then (0, 21) else (a - b, 0)) else (0, 2)
def sumF : Int → List Int → Int × Int
  | n, [] => (n, 0)
  | n, x :: l => if (addF n x).2 = 0 then sumF (addF n x).1 l else (0, (addF n x).2)

theorem addF_ok {a b : Int} (h : (addF a b).2 = 0) : (addF a b).1 = a + b ∧ 0 ≤ a ∧ 0 ≤ b ∧ a + b ≤ 1125899906842624 := by
  unfold addF at h ⊢
  split at h
  · next h1 =>
    rw [if_pos h1]
    simp only [okA_iff] at h1
    exact ⟨rfl, h1.1.1, h1.2.1.1, h1.2.2.2⟩
  · cases h

def okW (w : Int) : Bool := decide (0 ≤ w) && decide (w ≤ 1024)
theorem okW_iff (n : Int) : okW n = true ↔ 0 ≤ n ∧ n ≤ 1024 := by simp [okW]

def weighF (ws : List Int) : Int × Int := if ws.all okW = true then (if ws.sum = 0 then (0, 1) else (ws.sum, 0)) else (0, 2)
def partsF (total all : Int) (ws : List Int) : List Int := ws.map fun w => total * w / all
def restF : Int → List Int → List Int → List Int
  | left, w :: ws, o :: os => if left = 0 then o :: os else if w = 0 then o :: restF left ws os else (o + 1) :: restF (left - 1) ws os
  | _, _, os => os
def splitF (total : Int) (ws : List Int) : List Int × Int :=
  if okA total = true then
    if ws.length = 0 ∨ 8 < ws.length then ([], 1) else
    if (weighF ws).2 = 0 then (restF (total - (partsF total (weighF ws).1 ws).sum) ws (partsF total (weighF ws).1 ws), 0) else ([], (weighF ws).2)
  else ([], 2)

theorem restF_len : ∀ (left : Int) (ws os : List Int), (restF left ws os).length = os.length
  | _, [], [] => rfl
  | _, [], _ :: _ => rfl
  | _, _ :: _, [] => rfl
  | left, w :: ws, o :: os => by
    unfold restF
    split
    · rfl
    · split <;> simp [restF_len]

theorem split_len (total : Int) (ws : List Int) : (splitF total ws).1.length ≤ 8 := by
  unfold splitF
  split
  · split
    · simp
    · split
      · next h1 h2 => simp only [restF_len, partsF, List.length_map]; omega
      · simp
  · simp

theorem restF_zero (ws os : List Int) : restF 0 ws os = os := by
  cases ws with
  | nil => cases os <;> rfl
  | cons w ws => cases os with
    | nil => rfl
    | cons o os => simp [restF]

theorem sum_bounds {ws : List Int} (h : ws.all okW = true) : 0 ≤ ws.sum ∧ ws.sum ≤ 1024 * ws.length := by
  induction ws with
  | nil => simp
  | cons w ws ih =>
    simp only [List.all_cons, Bool.and_eq_true] at h
    have h1 := (okW_iff w).1 h.1
    have h2 := ih h.2
    simp only [List.sum_cons, List.length_cons]
    omega

theorem parts_le {total all : Int} (ht : 0 ≤ total) (ha : 0 < all) : ∀ {ws : List Int}, ws.all okW = true → (partsF total all ws).sum * all ≤ total * ws.sum := by
  intro ws h
  induction ws with
  | nil => simp [partsF]
  | cons w ws ih =>
    simp only [List.all_cons, Bool.and_eq_true] at h
    have h2 := ih h.2
    have h3 : total * w / all * all ≤ total * w := Int.ediv_mul_le _ (by omega)
    simp only [partsF, List.map_cons, List.sum_cons, Int.add_mul, Int.mul_add] at h2 ⊢
    omega

theorem parts_nonneg {total all : Int} (ht : 0 ≤ total) (ha : 0 < all) : ∀ {ws : List Int}, ws.all okW = true → 0 ≤ (partsF total all ws).sum := by
  intro ws h
  induction ws with
  | nil => simp [partsF]
  | cons w ws ih =>
    simp only [List.all_cons, Bool.and_eq_true] at h
    have h1 := (okW_iff w).1 h.1
    have h2 := ih h.2
    have h3 : 0 ≤ total * w / all := Int.ediv_nonneg (Int.mul_nonneg ht h1.1) (by omega)
    simp only [partsF, List.map_cons, List.sum_cons] at h2 ⊢
    omega

theorem sum_take_le {ws : List Int} (h : ws.all okW = true) (i : Nat) : (ws.take i).sum ≤ ws.sum := by
  have e : ws.sum = (ws.take i).sum + (ws.drop i).sum := by rw [← List.sum_append, List.take_append_drop]
  have h2 : (ws.drop i).all okW = true := by
    rw [List.all_eq_true] at h ⊢
    exact fun x hx => h x (List.mem_of_mem_drop hx)
  have := (sum_bounds h2).1
  omega

theorem all_take {ws : List Int} (h : ws.all okW = true) (i : Nat) : (ws.take i).all okW = true := by
  rw [List.all_eq_true] at h ⊢
  exact fun x hx => h x (List.mem_of_mem_take hx)

/-- What is left behind the first i parts is an amount. -/
theorem left_ok {total : Int} {ws : List Int} (ht : okA total = true) (h : ws.all okW = true) (hs : ws.sum ≠ 0) (i : Nat) :
    0 ≤ (partsF total ws.sum (ws.take i)).sum ∧ (partsF total ws.sum (ws.take i)).sum ≤ total := by
  obtain ⟨h0, h1⟩ := (okA_iff _).1 ht
  have hp : 0 < ws.sum := by have := (sum_bounds h).1; omega
  refine ⟨parts_nonneg h0 hp (all_take h i), ?_⟩
  have h2 := parts_le (total := total) h0 hp (all_take h i)
  have h3 : total * (ws.take i).sum ≤ total * ws.sum := Int.mul_le_mul_of_nonneg_left (sum_take_le h i) h0
  exact Int.le_of_mul_le_mul_right (Int.le_trans h2 h3) hp

theorem part_ok {total w all : Int} (ht : okA total = true) (hw : okW w = true) (ha : 0 < all) : 0 ≤ total * w ∧ total * w ≤ 1152921504606846976 ∧ 0 ≤ total * w / all ∧ total * w / all ≤ 1152921504606846976 := by
  obtain ⟨h0, h1⟩ := (okA_iff _).1 ht
  obtain ⟨h2, h3⟩ := (okW_iff _).1 hw
  have h4 : 0 ≤ total * w := Int.mul_nonneg h0 h2
  have h5 : total * w ≤ 1125899906842624 * 1024 := Int.mul_le_mul h1 h3 h2 (by omega)
  have h6 : total * w / all ≤ total * w := Int.ediv_le_self _ h4
  exact ⟨h4, by omega, Int.ediv_nonneg h4 (by omega), by omega⟩

theorem weighF_ok {l : List Int} (h : (weighF l).2 = 0) : l.all okW = true ∧ (weighF l).1 = l.sum ∧ 0 < l.sum := by
  unfold weighF at h ⊢
  split at h
  · next h1 =>
    rw [if_pos h1]
    split at h
    · cases h
    · next h2 => rw [if_neg h2]; exact ⟨h1, rfl, by have := (sum_bounds h1).1; omega⟩
  · cases h

theorem parts_next {total all : Int} {l : List Int} {i : Nat} {x : Int} (hx : l[i]? = some x) : partsF total all (l.take (i + 1)) = partsF total all (l.take i) ++ [total * x / all] := by
  rw [List.take_add_one, hx]; simp [partsF]

theorem parts_set {total all : Int} {l : List Int} {i n : Nat} {x : Int} (hx : l[i]? = some x) (hn : l.length = n) :
    (partsF total all (l.take i) ++ List.replicate (n - i) 0).set i (total * x / all) = partsF total all (l.take (i + 1)) ++ List.replicate (n - (i + 1)) 0 := by
  have hi : i < l.length := (List.getElem?_eq_some_iff.1 hx).1
  have hl : (partsF total all (l.take i)).length = i := by simp [partsF]; omega
  rw [parts_next hx, show n - i = (n - (i + 1)) + 1 by omega, List.replicate_succ, List.set_append_right _ _ (by omega), hl, Nat.sub_self]
  simp

theorem parts_len (total all : Int) (l : List Int) : (partsF total all l).length = l.length := by simp [partsF]

/-- One step of the rest. -/
theorem restF_next {left : Int} {l ps : List Int} {i : Nat} {x y : Int} (hx : l.drop i = x :: l.drop (i + 1)) (hy : ps.drop i = y :: ps.drop (i + 1)) :
    restF left (l.drop i) (ps.drop i) = if left = 0 then ps.drop i else if x = 0 then y :: restF left (l.drop (i + 1)) (ps.drop (i + 1)) else (y + 1) :: restF (left - 1) (l.drop (i + 1)) (ps.drop (i + 1)) := by
  rw [hx, hy, restF]

theorem parts_at {total all : Int} {l : List Int} {i : Nat} {x : Int} (hx : l[i]? = some x) : (partsF total all l)[i]? = some (total * x / all) ∧ (partsF total all l).drop i = total * x / all :: (partsF total all l).drop (i + 1) := by
  have h : (partsF total all l)[i]? = some (total * x / all) := by simp [partsF, hx]
  refine ⟨h, ?_⟩
  have hl := (List.getElem?_eq_some_iff.1 h).1
  rw [List.drop_eq_getElem_cons hl]
  congr 1
  exact (List.getElem?_eq_some_iff.1 h).2

/-- A pot: what is left, what each seat has. -/
structure PotX where
  left : Int
  has : List Int

/-- A pot that is right: its seats, its amount. -/
structure PotX.Ok (p : PotX) (amount : Int) (seats : Nat) : Prop where
  len : p.has.length = seats
  one : 1 ≤ seats
  most : seats ≤ 8
  pos : 0 ≤ p.left
  each : ∀ x ∈ p.has, 0 ≤ x
  sum : p.left + p.has.sum = amount
  cap : amount ≤ 1125899906842624

def seatF (n : Nat) (seat : Int) : Nat := if seat < 0 ∨ (n : Int) ≤ seat then 0 else seat.toNat
def paidF (p : PotX) (ask : Int) : Int := if p.left < ask then p.left else if ask < 0 then 0 else ask
def payF (p : PotX) (seat ask : Int) : PotX := ⟨p.left - paidF p ask, p.has.set (seatF p.has.length seat) (p.has.getD (seatF p.has.length seat) 0 + paidF p ask)⟩

theorem seatF_lt {n : Nat} (h : 1 ≤ n) (seat : Int) : seatF n seat < n := by
  unfold seatF
  split <;> omega

theorem sum_set : ∀ (l : List Int) (i : Nat) (v : Int), i < l.length → (l.set i (l.getD i 0 + v)).sum = l.sum + v
  | [], _, _, h => by cases h
  | x :: l, 0, v, _ => by simp; omega
  | x :: l, i + 1, v, h => by
    have := sum_set l i v (by simpa using h)
    simp at this ⊢
    omega

theorem mem_le_sum : ∀ (l : List Int), (∀ x ∈ l, 0 ≤ x) → 0 ≤ l.sum ∧ ∀ x ∈ l, x ≤ l.sum
  | [], _ => ⟨by simp, fun x hx => by cases hx⟩
  | y :: l, h => by
    obtain ⟨h1, h2⟩ := mem_le_sum l (fun x hx => h x (List.mem_cons_of_mem _ hx))
    have h3 := h y (List.mem_cons_self ..)
    refine ⟨by simp; omega, fun x hx => ?_⟩
    rcases List.mem_cons.1 hx with rfl | hx
    · simp; omega
    · have := h2 x hx; simp; omega

theorem PotX.Ok.get {p : PotX} {amount : Int} {seats : Nat} (h : p.Ok amount seats) (i : Nat) : 0 ≤ p.has.getD i 0 ∧ p.has.getD i 0 ≤ 1125899906842624 ∧ p.left ≤ 1125899906842624 ∧ p.left + p.has.getD i 0 ≤ 1125899906842624 := by
  obtain ⟨h1, h2⟩ := mem_le_sum p.has h.each
  have h3 := h.pos
  have h4 := h.sum
  have h5 := h.cap
  rw [List.getD_eq_getElem?_getD]
  rcases Nat.lt_or_ge i p.has.length with hi | hi
  · rw [List.getElem?_eq_getElem hi]
    have h6 := h.each _ (List.getElem_mem hi)
    have h7 := h2 _ (List.getElem_mem hi)
    simp
    omega
  · rw [List.getElem?_eq_none hi]
    simp
    omega

theorem PotX.Ok.paid {p : PotX} {amount : Int} {seats : Nat} (h : p.Ok amount seats) (ask : Int) : 0 ≤ paidF p ask ∧ paidF p ask ≤ p.left := by
  have := h.pos
  unfold paidF
  split
  · omega
  · split <;> omega

theorem PotX.Ok.pay {p : PotX} {amount : Int} {seats : Nat} (h : p.Ok amount seats) (seat ask : Int) : (payF p seat ask).Ok amount seats := by
  have hp := h.paid ask
  have hs := seatF_lt (n := p.has.length) (by rw [h.len]; exact h.one) seat
  refine ⟨by simp [payF, h.len], h.one, h.most, by simp [payF]; omega, ?_, ?_, h.cap⟩
  · intro x hx
    rcases List.mem_or_eq_of_mem_set hx with hx | rfl
    · exact h.each x hx
    · have := (h.get (seatF p.has.length seat)).1
      omega
  · have := sum_set p.has (seatF p.has.length seat) (paidF p ask) hs
    simp only [payF, this]
    have := h.sum
    omega

theorem PotX.Ok.start {amount : Int} {seats : Nat} (h : okA amount = true) (h1 : 1 ≤ seats) (h8 : seats ≤ 8) : PotX.Ok ⟨amount, List.replicate seats 0⟩ amount seats := by
  obtain ⟨h0, h2⟩ := (okA_iff _).1 h
  refine ⟨by simp, h1, h8, h0, fun x hx => by rw [List.eq_of_mem_replicate hx]; exact Int.le_refl _, ?_, h2⟩
  have : ∀ n : Nat, (List.replicate n (0 : Int)).sum = 0 := by
    intro n
    induction n with
    | zero => rfl
    | succ n ih => rw [List.replicate_succ, List.sum_cons, ih]; rfl
  rw [this]
  simp

/-- All that the seats have, summed as the program does. -/
theorem sumF_ok : ∀ (l : List Int) (n : Int), 0 ≤ n → (∀ x ∈ l, 0 ≤ x) → n + l.sum ≤ 1125899906842624 → sumF n l = (n + l.sum, 0)
  | [], n, _, _, _ => by simp [sumF]
  | x :: l, n, hn, h, hs => by
    have hx := h x (List.mem_cons_self ..)
    have hl := (mem_le_sum l (fun y hy => h y (List.mem_cons_of_mem _ hy))).1
    simp only [List.sum_cons] at hs ⊢
    have e : addF n x = (n + x, 0) := by
      unfold addF
      rw [if_pos]
      simp only [okA_iff]
      omega
    unfold sumF
    rw [e]
    simp only [if_true]
    rw [sumF_ok l (n + x) (by omega) (fun y hy => h y (List.mem_cons_of_mem _ hy)) (by omega)]
    congr 1
    omega

theorem PotX.Ok.sums {p : PotX} {amount : Int} {n : Nat} (h : p.Ok amount n) : sumF 0 p.has = (p.has.sum, 0) ∧ 0 ≤ p.has.sum ∧ p.has.sum ≤ 1125899906842624 ∧ p.left ≤ 1125899906842624 ∧ p.has.sum + p.left = amount := by
  have h1 := (mem_le_sum p.has h.each).1
  have h2 := h.sum
  have h3 := h.cap
  have h4 := h.pos
  refine ⟨?_, h1, by omega, by omega, by omega⟩
  rw [sumF_ok p.has 0 (Int.le_refl _) h.each (by omega)]
  simp

theorem PotX.Ok.rest {p : PotX} {amount : Int} {n : Nat} (h : p.Ok amount n) (seat : Int) : (payF p seat p.left).left = 0 := by
  have := h.pos
  unfold payF paidF
  rw [if_neg (by omega), if_neg (by omega)]
  exact Int.sub_self _

theorem paid_none {p : PotX} (h : p.left = 0) (ask : Int) : paidF p ask = 0 := by
  unfold paidF
  rw [h]
  split
  · rfl
  · split <;> omega

theorem subF_ok {a b : Int} (h : (subF a b).2 = 0) : (subF a b).1 = a - b ∧ 0 ≤ a ∧ 0 ≤ b ∧ b ≤ a ∧ a ≤ 1125899906842624 := by
  unfold subF at h ⊢
  split at h
  · next h1 =>
    rw [if_pos h1]
    simp only [okA_iff] at h1
    split at h
    · cases h
    · next h2 => rw [if_neg h2]; exact ⟨rfl, h1.1.1, h1.2.1, by omega, h1.1.2⟩
  · cases h

theorem add_sub {a b : Int} (h : (addF a b).2 = 0) : subF (addF a b).1 b = (a, 0) := by
  obtain ⟨e, h1, h2, h3⟩ := addF_ok h
  rw [e]
  unfold subF
  rw [if_pos (by simp only [okA_iff]; omega), if_neg (by omega)]
  congr 1
  omega

theorem sub_add {a b : Int} (h : (subF a b).2 = 0) : addF (subF a b).1 b = (a, 0) := by
  obtain ⟨e, h1, h2, h3, h4⟩ := subF_ok h
  rw [e]
  unfold addF
  rw [if_pos (by simp only [okA_iff]; omega)]
  congr 1
  omega

end Go.Proofs.Ytoeoneiopcagfaa
