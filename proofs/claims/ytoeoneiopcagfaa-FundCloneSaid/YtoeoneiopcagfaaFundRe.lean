/- The document's fund as a law holds it: in a block, its two lists elsewhere. -/
import Derived.Test.YtoeoneiopcagfaaFundRd
namespace Go.Proofs.Ytoeoneiopcagfaa
open Go.RowKit

theorem OwnS.notRow {α : Type} {E : El α} {w : World} {base b n c : Nat} {ao : Option Addr} {l : List α} {cs : Array Value} {t : TypeId} {fr : Nat × Nat} (h : OwnS E w base ao n c l) (hz : w.heap[b]? = some (.cells cs t fr)) (hne : t ≠ E.e) : (Value.slice ao n c).ownBlock ≠ some b := by
  rcases h.own.2 with ⟨hv, _⟩ | ⟨g, cap', cur, hv, _, hg, _⟩
  · cases hv
    simp [Value.ownBlock]
  · cases hv
    intro e
    simp [Value.ownBlock] at e
    subst e
    rw [hg] at hz
    cases hz
    exact hne rfl

/-- The document's fund in block b. -/
structure RefS (w : World) (b n : Nat) (so : Option Addr) (sc : Nat) (lo : Option Addr) (lc : Nat) (f : FundX) : Prop where
  hz : w.heap[b]? = some (.cells #[.slice so n sc, .slice lo n lc, .int .i64 f.due] 40 (0, 0))
  st : OwnS intE w 0 so n sc f.stakes
  la : OwnS boolE w 0 lo n lc f.laid

section
variable {w w' : World} {b n sc lc : Nat} {so lo : Option Addr} {f : FundX}
theorem RefS.ref (h : RefS w b n so sc lo lc f) : RefP w so n sc lo lc f := ⟨h.st.rd, h.la.rd⟩
theorem RefS.below (h : RefS w b n so sc lo lc f) (hb : Below w.heap.size w w') : RefS w' b n so sc lo lc f :=
  ⟨z_keep (grown_of_below hb none) h.hz (fun e => by cases e), h.st.below hb, h.la.below hb⟩
/-- A block of another kind is written. -/
theorem RefS.keep {g : Nat} {cs : Array Value} {t : TypeId} {fr : Nat × Nat} (h : RefS w b n so sc lo lc f) (hg : w.grownBy w' (some g)) (hzg : w.heap[g]? = some (.cells cs t fr)) (h1 : t ≠ intE.e) (h2 : t ≠ boolE.e) (h3 : t ≠ 40) : RefS w' b n so sc lo lc f :=
  ⟨z_keep hg h.hz (fun e => by have := Option.some.inj e; subst this; rw [h.hz] at hzg; cases hzg; exact h3 rfl), h.st.grown hg (.inr (h.st.notRow hzg h1)), h.la.grown hg (.inr (h.la.notRow hzg h2))⟩
theorem RefS.put {y0 y1 y2 : Value} (hz : w.heap[b]? = some (.cells #[y0, y1, y2] 40 (0, 0))) (st : OwnS intE w 0 so n sc f.stakes) (la : OwnS boolE w 0 lo n lc f.laid) :
    RefS (((w.setCell ⟨b, 0, none⟩ (.slice so n sc)).setCell ⟨b, 1, none⟩ (.slice lo n lc)).setCell ⟨b, 2, none⟩ (.int .i64 f.due)) b n so sc lo lc f :=
  ⟨box_put hz _ _ _, st.grown (box_grown _ _ _ _ _) (.inr (st.notRow hz (by decide))), la.grown (box_grown _ _ _ _ _) (.inr (la.notRow hz (by decide)))⟩
theorem RefS.new (st : OwnS intE w 0 so n sc f.stakes) (la : OwnS boolE w 0 lo n lc f.laid) :
    RefS (w.alloc (.cells #[.slice so n sc, .slice lo n lc, .int .i64 f.due] 40 (0, 0))) w.heap.size n so sc lo lc f :=
  ⟨heap_alloc_new w _, st.below (below_alloc w _), la.below (below_alloc w _)⟩
theorem RefS.cells (h : RefS w b n so sc lo lc f) : w.cell? ⟨b, 0, none⟩ = some (.slice so n sc) ∧ w.cell? ⟨b, 1, none⟩ = some (.slice lo n lc) ∧ w.cell? ⟨b, 2, none⟩ = some (.int .i64 f.due) := by
  obtain ⟨h0, h1, h2, _⟩ := box_cells h.hz
  exact ⟨h0, h1, h2⟩
theorem RefS.lt (h : RefS w b n so sc lo lc f) : b < w.heap.size := lt_of_block h.hz
end

theorem layR_use {w : World} {so lo : Option Addr} {n sc lc : Nat} {f : FundX} {seat amount now : Int} (hS : RdS intE w so n sc f.stakes) (hL : OwnS boolE w 0 lo n lc f.laid) (hk : f.Ok) :
    Calls Try.prog 21 #[.agg #[.slice so n sc, .slice lo n lc, .int .i64 f.due], .int .i64 seat, .int .i64 amount, .int .i64 now] w fun e w' => ∃ (lo' : Option Addr) (lc' : Nat),
      e = .returned (.tuple #[.agg #[.slice so n sc, .slice lo' n lc', .int .i64 (layF f seat amount now).1.due], .int .i64 (layF f seat amount now).2]) ∧ OwnS boolE w' 0 lo' n lc' (layF f seat amount now).1.laid ∧ Below w.heap.size w w' :=
  (layR_any hS hL (Nat.zero_le _) hk).mono fun _ _ ⟨lo', lc', h1, h2, h3⟩ => ⟨lo', lc', by rw [h1]; rfl, h2, h3⟩

theorem backR_use {w : World} {so lo : Option Addr} {n sc lc : Nat} {f : FundX} {seat : Int} (hS : RdS intE w so n sc f.stakes) (hL : OwnS boolE w 0 lo n lc f.laid) (hk : f.Ok) :
    Calls Try.prog 20 #[.agg #[.slice so n sc, .slice lo n lc, .int .i64 f.due], .int .i64 seat] w fun e w' => ∃ (lo' : Option Addr) (lc' : Nat),
      e = .returned (.tuple #[.agg #[.slice so n sc, .slice lo' n lc', .int .i64 (backF f seat).1.due], .int .i64 (backF f seat).2.1, .int .i64 (backF f seat).2.2]) ∧ OwnS boolE w' 0 lo' n lc' (backF f seat).1.laid ∧ Below w.heap.size w w' :=
  (backR_any hS hL (Nat.zero_le _) hk).mono fun _ _ ⟨lo', lc', h1, h2, h3⟩ => ⟨lo', lc', by rw [h1]; rfl, h2, h3⟩
end Go.Proofs.Ytoeoneiopcagfaa
