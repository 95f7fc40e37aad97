/-
  Small laws on slices that are read and slices that a call owns, of no program. They hold with no condition but those that each names.
-/
import Derived.WalkKit
import Derived.WalkSpells
import Derived.WalkLawsBesides
import Derived.Handy
import Derived.Deep.QuietTactic
import Derived.BigQuiet
import Derived.Deep.LoopGhost
import Derived.Laws.AppendOwnNone
import Derived.Deep.RegionWith
import Derived.Deep.RegionLaw
import Derived.Laws.OwnMore
import Derived.Deep.DeepCutAuto
import Derived.Deep.CutBlock
namespace Go.Proofs.Ytpnliafjiookpaa
open Go.RowKit

/-- A fact kept from the walk. -/
structure Hidden (p : Prop) : Prop where
  out : p

theorem hide {p : Prop} (h : p) : Hidden p := ⟨h⟩

theorem addr_add (b o j : Nat) : (⟨b, o, none⟩ : Addr).add j = ⟨b, o + j, none⟩ := by unfold Addr.add; split <;> simp_all

/-- The slice at 'ao' reads as the cells xs. -/
def Rd (w : World) (ao : Option Addr) (xs : List Value) : Prop :=
  ∀ i u, xs[i]? = some u → ∃ b o, ao = some ⟨b, o, none⟩ ∧ w.cell? ⟨b, o + i, none⟩ = some u

theorem Rd.nil (w : World) (ao : Option Addr) : Rd w ao [] := by
  intro i u h; simp at h

theorem Rd.head {w : World} {ao : Option Addr} {xs : List Value} (h : Rd w ao xs) (hne : 0 < xs.length) :
    ∃ b o, ao = some ⟨b, o, none⟩ ∧ ∀ i u, xs[i]? = some u → w.cell? ⟨b, o + i, none⟩ = some u := by
  obtain ⟨b, o, rfl, _⟩ := h 0 xs[0] (by simp [hne])
  refine ⟨b, o, rfl, fun i u hu => ?_⟩
  obtain ⟨b', o', e, hc⟩ := h i u hu
  cases e
  exact hc

theorem Rd.mk_some {w : World} {b o : Nat} {xs : List Value} (h : ∀ i u, xs[i]? = some u → w.cell? ⟨b, o + i, none⟩ = some u) : Rd w (some ⟨b, o, none⟩) xs :=
  fun i u hu => ⟨b, o, rfl, h i u hu⟩

theorem Rd.below {w w' : World} {ao : Option Addr} {xs : List Value} (h : Rd w ao xs) (hb : Below w.heap.size w w') : Rd w' ao xs := by
  intro i u hu
  obtain ⟨b, o, rfl, hc⟩ := h i u hu
  exact ⟨b, o, rfl, by rw [hb.cell (p := ⟨b, o + i, none⟩) (World.block_lt_of_cell? w ⟨b, o + i, none⟩ hc)]; exact hc⟩

theorem Rd.grown {w w' : World} {ao : Option Addr} {xs : List Value} {row : Option Nat} (h : Rd w ao xs) (hb : w.grownBy w' row) (hne : 0 < xs.length → ∀ ad, ao = some ad → some ad.block ≠ row) : Rd w' ao xs := by
  intro i u hu
  have hpos : 0 < xs.length := Nat.lt_of_le_of_lt (Nat.zero_le _) (List.getElem?_eq_some_iff.1 hu).1
  obtain ⟨b, o, rfl, hc⟩ := h i u hu
  exact ⟨b, o, rfl, hb.cell hc (hne hpos ⟨b, o, none⟩ rfl)⟩

theorem Rd.take {w : World} {ao : Option Addr} {xs : List Value} (h : Rd w ao xs) (k : Nat) : Rd w ao (xs.take k) := by
  intro i u hu
  rw [List.getElem?_take] at hu
  split at hu
  · exact h i u hu
  · cases hu

/-- What stands from place k on, at whatever address the reslice has. -/
theorem Rd.drop {w : World} {ao ao' : Option Addr} {xs : List Value} {k : Nat} (h : Rd w ao xs) (he : k < xs.length → ∀ b o, ao = some ⟨b, o, none⟩ → ao' = some ⟨b, o + k, none⟩) : Rd w ao' (xs.drop k) := by
  intro i u hu
  rw [List.getElem?_drop] at hu
  obtain ⟨b, o, rfl, hc⟩ := h _ u hu
  have hlt : k + i < xs.length := (List.getElem?_eq_some_iff.1 hu).1
  exact ⟨b, o + k, he (by omega) b o rfl, by rw [Nat.add_assoc]; exact hc⟩

theorem below_of_grown {w w' : World} (h : w.grownBy w' none) : Below w.heap.size w w' :=
  ⟨h.os, h.tape, h.output, h.size, fun k hk => h.block k hk (by simp)⟩

theorem grown_of_below {w w' : World} (h : Below w.heap.size w w') (row : Option Nat) : w.grownBy w' row :=
  ⟨h.os, h.tape, h.output, h.size, fun k hk _ => h.block k hk⟩

theorem below_drewN {B : Nat} {a w : World} (h : Below B a w) (n : Nat) : Below B a (w.drewN n) := ⟨h.os, h.tape, h.output, h.size, h.block⟩

/-- Two steps, one behind the other: what was there stays. -/
theorem below_trans {a b c : World} (h : Below a.heap.size a b) (k : Below b.heap.size b c) : Below a.heap.size a c :=
  h.trans (k.mono h.size)

/-- What is known of the elements of a slice: the type's number, how many cells each has, and which. -/
structure El (α : Type) where
  e : TypeId
  size : Nat
  enc : α → List Value

structure El.Ok {α : Type} (E : El α) : Prop where
  len : ∀ x, (E.enc x).length = E.size
  pos : 0 < E.size
  one : ∀ x, ∀ u ∈ E.enc x, u.oneCell' = true

theorem El.Ok.flat {α : Type} {E : El α} (h : E.Ok) (l : List α) : (l.flatMap E.enc).length = l.length * E.size := by
  induction l with
  | nil => simp
  | cons x l ih => simp [ih, h.len, Nat.succ_mul]; omega

theorem El.Ok.ones {α : Type} {E : El α} (h : E.Ok) (l : List α) : ∀ u ∈ l.flatMap E.enc, u.oneCell' = true := by
  intro u hu
  obtain ⟨x, _, hx⟩ := List.mem_flatMap.1 hu
  exact h.one x u hx

theorem El.Ok.take {α : Type} {E : El α} (h : E.Ok) (l : List α) (k : Nat) : (l.take k).flatMap E.enc = (l.flatMap E.enc).take (k * E.size) := by
  induction l generalizing k with
  | nil => simp
  | cons x l ih =>
    cases k with
    | zero => simp
    | succ k =>
      have e : (E.enc x).take ((k + 1) * E.size) = E.enc x := List.take_of_length_le (by rw [h.len, Nat.succ_mul]; omega)
      rw [List.take_succ_cons, List.flatMap_cons, ih, List.flatMap_cons, List.take_append, e, h.len, Nat.succ_mul, Nat.add_sub_cancel]

theorem El.Ok.drop {α : Type} {E : El α} (h : E.Ok) (l : List α) (k : Nat) : (l.drop k).flatMap E.enc = (l.flatMap E.enc).drop (k * E.size) := by
  induction l generalizing k with
  | nil => simp
  | cons x l ih =>
    cases k with
    | zero => simp
    | succ k =>
      have e : (E.enc x).drop ((k + 1) * E.size) = [] := List.drop_of_length_le (by rw [h.len, Nat.succ_mul]; omega)
      rw [List.drop_succ_cons, ih, List.flatMap_cons, List.drop_append, e, h.len, Nat.succ_mul, Nat.add_sub_cancel, List.nil_append]

theorem El.Ok.at {α : Type} {E : El α} (h : E.Ok) (l : List α) (k j : Nat) (x : α) (hk : l[k]? = some x) (hj : j < E.size) : (l.flatMap E.enc)[k * E.size + j]? = (E.enc x)[j]? := by
  have e : (l.flatMap E.enc)[k * E.size + j]? = ((l.drop k).flatMap E.enc)[j]? := by rw [h.drop, List.getElem?_drop]
  have hlt := (List.getElem?_eq_some_iff.1 hk).1
  have hx : l.drop k = x :: l.drop (k + 1) := by
    rw [List.drop_eq_getElem_cons hlt, (List.getElem?_eq_some_iff.1 hk).2]
  rw [e, hx, List.flatMap_cons, List.getElem?_append_left (by rw [h.len]; exact hj)]

/-- The slice '.slice ao n c' can be read in w: its elements are l. -/
structure RdS {α : Type} (E : El α) (w : World) (ao : Option Addr) (n c : Nat) (l : List α) : Prop where
  rd : Rd w ao (l.flatMap E.enc)
  len : l.length = n
  cap : n ≤ c
  nil : ao = none → n = 0 ∧ c = 0

/-- The slice '.slice ao n c' is the call's own (its block's number is base at least): its elements are l. -/
structure OwnS {α : Type} (E : El α) (w : World) (base : Nat) (ao : Option Addr) (n c : Nat) (l : List α) : Prop where
  own : w.ownsRow base E.e E.size (.slice ao n c) n (l.flatMap E.enc)
  len : l.length = n

section
variable {α : Type} {E : El α} {w w' : World} {ao : Option Addr} {n c base : Nat} {l : List α}

theorem OwnS.shape (h : OwnS E w base ao n c l) : n ≤ c ∧ c ≤ maxLen ∧ (ao = none → n = 0 ∧ c = 0) := by
  rcases h.own.2 with ⟨e, h0⟩ | ⟨g, cap, cur, e, hb, hg, h1, h2, h3, h4⟩
  · cases e; exact ⟨Nat.le_refl _, Nat.zero_le _, fun _ => ⟨rfl, rfl⟩⟩
  · cases e; exact ⟨h1, h2, fun e => by cases e⟩

theorem OwnS.rd (h : OwnS E w base ao n c l) : RdS E w ao n c l := by
  refine ⟨?_, h.len, h.shape.1, h.shape.2.2⟩
  intro i u hu
  rcases h.own.2 with ⟨hv, h0⟩ | ⟨g, cap', cur, hv, hb, hg, h1, h2, h3, h4⟩
  · have := h.own.1
    rw [h0, Nat.zero_mul] at this
    rw [List.eq_nil_of_length_eq_zero this] at hu
    simp at hu
  · cases hv
    have := h.own.cells (g := g) rfl i u hu
    refine ⟨g, 0, rfl, ?_⟩
    have hadd : (⟨g, 0, none⟩ : Addr).add i = ⟨g, 0 + i, none⟩ := by unfold Addr.add; split <;> simp_all
    rw [← hadd]; exact this

theorem OwnS.addr (h : OwnS E w base ao n c l) : ∀ ad, ao = some ad → ∃ g, ad = ⟨g, 0, none⟩ ∧ base ≤ g ∧ g < w.heap.size := by
  intro ad had
  subst had
  rcases h.own.2 with ⟨hv, _⟩ | ⟨g, cap', cur, hv, hb, hg, _⟩
  · cases hv
  · cases hv
    exact ⟨g, rfl, hb, (Array.getElem?_eq_some_iff.1 hg).1⟩

theorem OwnS.grown {row : Option Nat} (h : OwnS E w base ao n c l) (hg : w.grownBy w' row) (hne : (Value.slice ao n c).ownBlock = none ∨ (Value.slice ao n c).ownBlock ≠ row) : OwnS E w' base ao n c l :=
  ⟨h.own.kept hg hne, h.len⟩

theorem OwnS.below (h : OwnS E w base ao n c l) (hb : Below w.heap.size w w') : OwnS E w' base ao n c l :=
  h.grown (grown_of_below hb none) (by cases hv : (Value.slice ao n c).ownBlock <;> simp)

theorem OwnS.mono {base' : Nat} (h : OwnS E w base ao n c l) (hb : base' ≤ base) : OwnS E w base' ao n c l := by
  refine ⟨⟨h.own.1, ?_⟩, h.len⟩
  rcases h.own.2 with hn | ⟨g, cap, cur, hv, hg, r⟩
  · exact .inl hn
  · exact .inr ⟨g, cap, cur, hv, Nat.le_trans hb hg, r⟩

theorem OwnS.nilRow (w : World) (base : Nat) : OwnS E w base none 0 0 [] := ⟨World.ownsRow_nil _ _ _ _, rfl⟩

theorem OwnS.emptyRow (w : World) (hb : base ≤ w.heap.size) : OwnS E (w.alloc (.cells #[] E.e)) base (some ⟨w.heap.size, 0, none⟩) 0 0 [] :=
  ⟨by have := World.ownsRow_made (base := base) (e := E.e) (size := E.size) w #[] 0 hb (Nat.zero_le _) (by simp); exact this, rfl⟩

theorem RdS.below (h : RdS E w ao n c l) (hb : Below w.heap.size w w') : RdS E w' ao n c l := ⟨h.rd.below hb, h.len, h.cap, h.nil⟩

theorem RdS.grown {row : Option Nat} (h : RdS E w ao n c l) (hE : E.Ok) (hb : w.grownBy w' row) (hne : 0 < n → ∀ ad, ao = some ad → some ad.block ≠ row) : RdS E w' ao n c l :=
  ⟨h.rd.grown hb (fun hp => hne (by rw [hE.flat, h.len] at hp; exact Nat.pos_of_mul_pos_right hp)), h.len, h.cap, h.nil⟩

theorem RdS.take (h : RdS E w ao n c l) (hE : E.Ok) {k : Nat} (hk : k ≤ n) : RdS E w ao k c (l.take k) :=
  ⟨by rw [hE.take]; exact h.rd.take _, by rw [List.length_take, h.len]; omega, by have := h.cap; omega, fun e => by have := h.nil e; omega⟩

/-- 's[k:]', at the address that the model gives it. -/
theorem RdS.drop {b o k : Nat} (h : RdS E w (some ⟨b, o, none⟩) n c l) (hE : E.Ok) (hk : k ≤ n) :
    RdS E w (if c = k then some ⟨b, o, none⟩ else some ⟨b, o + k * E.size, none⟩) (n - k) (c - k) (l.drop k) := by
  refine ⟨?_, by rw [List.length_drop, h.len], by have := h.cap; omega, fun e => by split at e <;> cases e⟩
  rw [hE.drop]
  refine h.rd.drop fun hlt b' o' e => ?_
  cases e
  rw [if_neg]
  intro hck
  rw [hE.flat, h.len] at hlt
  have := h.cap
  have hkn : k < n := Nat.lt_of_mul_lt_mul_right hlt
  omega

theorem RdS.dropO {k : Nat} (h : RdS E w ao n c l) (hE : E.Ok) (hk : k ≤ n) :
    RdS E w (if c = k then ao else ao.map fun x => x.add (k * E.size)) (n - k) (c - k) (l.drop k) := by
  refine ⟨?_, by rw [List.length_drop, h.len], by have := h.cap; omega, fun e => ?_⟩
  · rw [hE.drop]
    refine h.rd.drop fun hlt b o e => ?_
    subst e
    rw [if_neg]
    · simp [addr_add]
    · intro hck
      rw [hE.flat, h.len] at hlt
      have := h.cap
      have hkn : k < n := Nat.lt_of_mul_lt_mul_right hlt
      omega
  · have h0 : ao = none := by split at e <;> simp_all
    have := h.nil h0
    omega

/-- A cell of an element. -/
theorem RdS.cell (h : RdS E w ao n c l) (hE : E.Ok) {k : Nat} {x : α} (hx : l[k]? = some x) {j : Nat} {u : Value} (hu : (E.enc x)[j]? = some u) :
    ∃ b o, ao = some ⟨b, o, none⟩ ∧ w.cell? ⟨b, o + (k * E.size + j), none⟩ = some u := by
  refine h.rd _ u ?_
  rw [hE.at l k j x hx (by rw [← hE.len x]; exact (List.getElem?_eq_some_iff.1 hu).1)]
  exact hu

theorem RdS.addrOf (h : RdS E w ao n c l) (hE : E.Ok) (hn : 0 < n) : ∃ b o, ao = some ⟨b, o, none⟩ := by
  have hl : 0 < (l.flatMap E.enc).length := by rw [hE.flat, h.len]; exact Nat.mul_pos hn hE.pos
  obtain ⟨b, o, e, _⟩ := h.rd.head hl
  exact ⟨b, o, e⟩
end

/-- What is known of a slice type and of its elements' type. -/
structure SliceT (P : Program) (t e : TypeId) (z : Value) (size bytes : Nat) : Prop where
  und : P.underlying t = some (.slice e)
  info : (P.info? e).map (fun i => (i.zero, i.size, i.bytes)) = some (some z, size, bytes)
  zs : z.cells.size = size
  pos : 0 < size

/-- 'append(x, y...)', x owned, y whatever can be read: it is owned still. -/
theorem wp_app {α : Type} {E : El α} (hE : E.Ok) {P : Program} {w : World} {o : Oper} {a : Act} {K : Act → World → Prop} {Q : Exit → Act → World → Prop}
    {t : TypeId} {z : Value} {bytes : Nat} (T : SliceT P t E.e z E.size bytes) (s x : Operand)
    (ho : o.op = .call { callee := .builtin .append, args := #[s, x], argTypes := #[t, t] })
    {base : Nat} {ao : Option Addr} {n c : Nat} {xs : List α} (hs : a.eval s = .slice ao n c) (hown : OwnS E w base ao n c xs)
    {ao2 : Option Addr} {m c2 : Nat} {ys : List α} (hx : a.eval x = .slice ao2 m c2) (hR : RdS E w ao2 m c2 ys)
    (hbytes : (n + m) * bytes ≤ 140737488355328) (h63 : n + m ≤ maxLen) (hbase : base ≤ w.heap.size)
    (h : ∀ ao' c' w', OwnS E w' base ao' (n + m) c' (xs ++ ys) → w.grownBy w' (Value.slice ao n c).ownBlock → (ao' = none → n + m = 0) →
      K (a.put o.dst (.slice ao' (n + m) c')) w') : o.wp P a w K Q := by
  obtain ⟨i, hi, hz, hsz, hby⟩ := info_parts T.info
  cases ao2 with
  | none =>
    obtain ⟨rfl, rfl⟩ := hR.nil rfl
    have hn : ys = [] := List.eq_nil_of_length_eq_zero hR.len
    subst hn
    have hrun := run_append_owned_none (P := P) (w := w) base t o.type E.e i E.size T.und hi _ n _ hown.own
    unfold Oper.wp
    simp [execOp, ho, resolve, invoke, builtin, hs, hx, hrun, Result.andThen]
    exact h ao c w (by simpa using hown) (World.grownBy.refl _ _) (fun e => (hown.shape.2.2 e).1)
  | some ad =>
    have hnews : ∀ j u, (ys.flatMap E.enc)[j]? = some u → w.cell? (ad.add j) = some u := by
      intro j u hu
      obtain ⟨b, o, e, hcell⟩ := hR.rd j u hu
      cases e
      rw [addr_add]; exact hcell
    refine wp_append_own w s x t ho base E.e i z E.size bytes T.und hi hz hsz hby T.zs T.pos _ n _ hs hown.own ad m c2 (ys.flatMap E.enc) hx (by rw [hE.flat, hR.len]) hnews (hE.ones ys) h63 hbytes hbase ?_
    intro v' w' hown' hg hnil
    rw [← List.flatMap_append] at hown'
    have hlen : (xs ++ ys).length = n + m := by rw [List.length_append, hown.len, hR.len]
    rcases hown'.2 with ⟨e, h0⟩ | ⟨g, cap, cur, e, hb, hgg, h1, h2, h3, h4⟩
    · subst e
      have h00 : n = 0 ∧ m = 0 := by omega
      obtain ⟨rfl, rfl⟩ := h00
      exact h none 0 w' ⟨hown', hlen⟩ hg (fun _ => rfl)
    · subst e
      exact h (some ⟨g, 0, none⟩) cap w' ⟨hown', hlen⟩ hg (fun e => by cases e)

theorem wpList_app {α : Type} {E : El α} (hE : E.Ok) {P : Program} {w : World} {ops : Array Oper} {rest : List Oper} {o : Oper} {a : Act} {Q : Exit → Act → World → Prop}
    {t : TypeId} {z : Value} {bytes : Nat} (T : SliceT P t E.e z E.size bytes) (hgd : Region.wanted o (yielded ops a.tmps) = true) (s x : Operand)
    (ho : o.op = .call { callee := .builtin .append, args := #[s, x], argTypes := #[t, t] })
    {base : Nat} {ao : Option Addr} {n c : Nat} {xs : List α} (hs : a.eval s = .slice ao n c) (hown : OwnS E w base ao n c xs)
    {ao2 : Option Addr} {m c2 : Nat} {ys : List α} (hx : a.eval x = .slice ao2 m c2) (hR : RdS E w ao2 m c2 ys)
    (hbytes : (n + m) * bytes ≤ 140737488355328) (h63 : n + m ≤ maxLen) (hbase : base ≤ w.heap.size)
    (h : ∀ ao' c' w', OwnS E w' base ao' (n + m) c' (xs ++ ys) → w.grownBy w' (Value.slice ao n c).ownBlock → (ao' = none → n + m = 0) →
      wpList P ops Q rest (a.put o.dst (.slice ao' (n + m) c')) w') : wpList P ops Q (o :: rest) a w :=
  BigFrame.wpList_want hgd fun _ hK => wp_app hE T s x ho hs hown hx hR hbytes h63 hbase fun ao' c' w' h1 h2 h3 => hK _ _ (h ao' c' w' h1 h2 h3)

/-- 'append(x, u)', x owned: u is laid in a block of its own first. -/
theorem wpList_app1 {α : Type} {E : El α} (hE : E.Ok) {P : Program} {w : World} {ops : Array Oper} {rest : List Oper} {o : Oper} {a : Act} {Q : Exit → Act → World → Prop}
    {t : TypeId} {z : Value} {bytes : Nat} (T : SliceT P t E.e z E.size bytes) (hgd : Region.wanted o (yielded ops a.tmps) = true) (s x : Operand)
    (ho : o.op = .call { callee := .builtin .append, args := #[s, x], argTypes := #[t, t] })
    {base : Nat} {ao : Option Addr} {n c : Nat} {xs : List α} (hs : a.eval s = .slice ao n c) (hown : OwnS E w base ao n c xs) {cs : Array Value} {fr : Nat × Nat} (u : α)
    (hx : a.eval x = .slice (some ⟨w.heap.size, 0, none⟩) 1 1) (hu : cs.toList = E.enc u) (hbytes : (n + 1) * bytes ≤ 140737488355328) (h63 : n + 1 ≤ maxLen) (hbase : base ≤ w.heap.size)
    (h : ∀ ao' c' w', OwnS E w' base ao' (n + 1) c' (xs ++ [u]) → w.grownBy w' (Value.slice ao n c).ownBlock → ao' ≠ none →
      wpList P ops Q rest (a.put o.dst (.slice ao' (n + 1) c')) w') : wpList P ops Q (o :: rest) a (w.alloc (.cells cs E.e fr)) := by
  refine wpList_app hE T hgd s x ho hs (hown.below ((Below.refl _ _).alloc (Nat.le_refl _) _)) (ys := [u]) hx ⟨?_, rfl, Nat.le_refl _, fun e => by cases e⟩ hbytes h63 (by simp; omega) ?_
  · refine Rd.mk_some fun i y hy => ?_
    rw [List.flatMap_cons, List.flatMap_nil, List.append_nil, ← hu] at hy
    unfold World.cell?
    rw [heap_alloc_new]
    simpa using hy
  · intro ao' cap' w' ho' hg hn
    refine h ao' cap' w' ho' ?_ (fun e => by have := hn e; omega)
    exact ⟨hg.os, hg.tape, hg.output, Nat.le_trans (by simp) hg.size, fun k hk hne => by
      rw [hg.block k (by simp; omega) hne]; exact Below.heap_alloc _ _ _ hk⟩

/-- What a call has made of its own leaves all that was there as it was. -/
theorem OwnS.frame {α : Type} {E : El α} {W w w' : World} {ao : Option Addr} {n c : Nat} {l : List α} (h : OwnS E w W.heap.size ao n c l) (hW : Below W.heap.size W w) (hg : w.grownBy w' (Value.slice ao n c).ownBlock) : Below W.heap.size W w' :=
  hW.grown hg hW.size (fun k hk => (h.own.lt k hk).1)

/-- .. as a step of a region whose order is open. -/
theorem step_app {α : Type} {E : El α} (hE : E.Ok) {P : Program} {w : World} {ops : Array Oper} {o : Oper} {a : Act} {K : Act → World → Prop} {Q : Exit → Act → World → Prop} {F : Prop}
    {t : TypeId} {z : Value} {bytes : Nat} (T : SliceT P t E.e z E.size bytes) (hgd : Region.wanted o (yielded ops a.tmps) = true) (s x : Operand)
    (ho : o.op = .call { callee := .builtin .append, args := #[s, x], argTypes := #[t, t] })
    {base : Nat} {ao : Option Addr} {n c : Nat} {xs : List α} (hs : a.eval s = .slice ao n c) (hown : OwnS E w base ao n c xs)
    {ao2 : Option Addr} {m c2 : Nat} {ys : List α} (hx : a.eval x = .slice ao2 m c2) (hR : RdS E w ao2 m c2 ys)
    (hbytes : (n + m) * bytes ≤ 140737488355328) (h63 : n + m ≤ maxLen) (hbase : base ≤ w.heap.size)
    (h : ∀ ao' c' w', OwnS E w' base ao' (n + m) c' (xs ++ ys) → w.grownBy w' (Value.slice ao n c).ownBlock → (ao' = none → n + m = 0) →
      K (a.put o.dst (.slice ao' (n + m) c')) w') : if Region.wanted o (yielded ops a.tmps) = true then o.wp P a w K Q else F := by
  rw [if_pos hgd]
  exact wp_app hE T s x ho hs hown hx hR hbytes h63 hbase h

/-- A store touches one block. -/
theorem grown_setCell (w : World) (a : Addr) (u : Value) : w.grownBy (w.setCell a u) (some a.block) :=
  ⟨rfl, rfl, rfl, by simp [World.setCell], fun k _ hk => Below.heap_setCell w a u k (fun e => hk (by rw [e]))⟩

theorem grown_trans {a b c : World} {row : Option Nat} (h : a.grownBy b row) (k : b.grownBy c row) : a.grownBy c row :=
  ⟨k.os.trans h.os, k.tape.trans h.tape, k.output.trans h.output, Nat.le_trans h.size k.size, fun i hi hne => (k.block i (Nat.lt_of_lt_of_le hi h.size) hne).trans (h.block i hi hne)⟩

/-- A cell of an owned slice, and that it may be written. -/
theorem OwnS.cell {α : Type} {E : El α} {w : World} {base n c : Nat} {g : Nat} {l : List α} (h : OwnS E w base (some ⟨g, 0, none⟩) n c l) (hE : E.Ok) {k : Nat} {x : α} (hx : l[k]? = some x) {j : Nat} {u : Value} (hu : (E.enc x)[j]? = some u) :
    w.cell? ⟨g, k * E.size + j, none⟩ = some u := by
  obtain ⟨b, o, e, hc⟩ := h.rd.cell hE hx hu
  cases e
  simpa using hc

theorem OwnS.free {α : Type} {E : El α} {w : World} {base n c : Nat} {g : Nat} {l : List α} (h : OwnS E w base (some ⟨g, 0, none⟩) n c l) (j : Nat) : w.frozen? ⟨g, j, none⟩ = false := h.own.frozenAt j

/-- An element of one cell is written. -/
theorem OwnS.put1 {α : Type} {E : El α} {w : World} {base n c : Nat} {g : Nat} {l : List α} (h : OwnS E w base (some ⟨g, 0, none⟩) n c l) (k : Nat) (x : α) {u : Value} (hu : ∀ y, (E.enc y).length = 1) (hx : E.enc x = [u]) :
    OwnS E (w.setCell ⟨g, k, none⟩ u) base (some ⟨g, 0, none⟩) n c (l.set k x) := by
  refine ⟨?_, by rw [List.length_set]; exact h.len⟩
  have := (h.own.stored k u).1
  have e : ∀ (l : List α) (k : Nat), (l.set k x).flatMap E.enc = (l.flatMap E.enc).set k u := by
    intro l
    induction l with
    | nil => intro k; simp
    | cons y l ih =>
      intro k
      obtain ⟨v, hv⟩ := List.length_eq_one_iff.1 (hu y)
      cases k with
      | zero => simp [hv, hx]
      | succ k => simp [hv, ih]
  rw [e]
  exact this

/-- Two that a call owns, of which one was made later, are apart. -/
theorem OwnS.ne {α β : Type} {E : El α} {F : El β} {w w2 : World} {base base2 n c n2 c2 : Nat} {ao ao2 : Option Addr} {l : List α} {l2 : List β} (h : OwnS E w base ao n c l) (h2 : OwnS F w2 base2 ao2 n2 c2 l2) (hb : w2.heap.size ≤ base) :
    (Value.slice ao n c).ownBlock = none ∨ (Value.slice ao n c).ownBlock ≠ (Value.slice ao2 n2 c2).ownBlock := by
  cases ao with
  | none => exact .inl rfl
  | some ad =>
    obtain ⟨g, rfl, hg, _⟩ := h.addr ad rfl
    refine .inr ?_
    cases ao2 with
    | none => simp [Value.ownBlock]
    | some ad2 =>
      obtain ⟨g2, rfl, _, hg2⟩ := h2.addr ad2 rfl
      simp [Value.ownBlock]
      omega

/-- 's[:min(len(s), most)]': how many stay. -/
theorem cut_is (n : Nat) (most : Int) (h : 0 ≤ most) : ∃ b : Nat, (if most < (n : Int) then most else (n : Int)) = (b : Int) ∧ b ≤ n ∧ (b : Int) ≤ most := by
  by_cases hc : most < (n : Int)
  · exact ⟨most.toNat, by rw [if_pos hc]; omega, by omega, by omega⟩
  · exact ⟨n, by rw [if_neg hc], Nat.le_refl _, by omega⟩

/-- Bytes. -/
def bt (l : List UInt8) (k : Nat) : Nat := (l.getD k 0).toNat

theorem bt_lt (l : List UInt8) (k : Nat) : bt l k < 256 := UInt8.toNat_lt _

theorem bt_of {l : List UInt8} {k : Nat} {x : UInt8} (h : l[k]? = some x) : bt l k = x.toNat := by
  unfold bt; rw [List.getD_eq_getElem?_getD, h]; rfl

theorem bt_some {l : List UInt8} {k : Nat} (h : k < l.length) : l[k]? = some (UInt8.ofNat (bt l k)) := by
  unfold bt; rw [List.getD_eq_getElem?_getD, List.getElem?_eq_getElem h]; simp

theorem bt_ext {l m : List UInt8} (h : l.length = m.length) (he : ∀ j, j < l.length → bt l j = bt m j) : l = m := by
  refine List.ext_getElem h fun i h1 h2 => ?_
  have := he i h1
  unfold bt at this
  rw [List.getD_eq_getElem?_getD, List.getD_eq_getElem?_getD, List.getElem?_eq_getElem h1, List.getElem?_eq_getElem h2] at this
  exact UInt8.toNat_inj.1 this

end Go.Proofs.Ytpnliafjiookpaa
