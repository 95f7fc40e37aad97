/- Digests of eight bytes, as values and in memory. -/
import Derived.Test.YtdpcbehgoljgeaaRows
import Derived.Test.YtdpcbehgoljgeaaMem
import Derived.Stop.BytesEq
namespace Go.Proofs.Ytdpcbehgoljgeaa
open Go.RowKit

/-- A digest: eight bytes. -/
abbrev Dig := {l : List UInt8 // l.length = 8}
def digL (d : Dig) : List Value := d.1.map Extern.Stop.cell
def digC (d : Dig) : Array Value := (digL d).toArray
def dig0 : Dig := ⟨[0, 0, 0, 0, 0, 0, 0, 0], rfl⟩
def dig1 (a : UInt8) : Dig := ⟨[a, 0, 0, 0, 0, 0, 0, 0], rfl⟩

theorem digL_len (d : Dig) : (digL d).length = 8 := by unfold digL; rw [List.length_map]; exact d.2
@[simp] theorem digC_size (d : Dig) : (digC d).size = 8 := by unfold digC; simpa using digL_len d
theorem digC_list (d : Dig) : (digC d).toList = digL d := rfl
theorem dig_ex (d : Dig) : ∃ a0 a1 a2 a3 a4 a5 a6 a7, d = ⟨[a0, a1, a2, a3, a4, a5, a6, a7], rfl⟩ := by
  obtain ⟨l, h⟩ := d
  match l, h with
  | [a0, a1, a2, a3, a4, a5, a6, a7], _ => exact ⟨a0, a1, a2, a3, a4, a5, a6, a7, rfl⟩
theorem digC_one (d : Dig) : (digC d).all (·.oneCell') = true := by
  unfold digC
  exact all_oneCell_toArray fun v hv => by
    obtain ⟨x, _, rfl⟩ := List.mem_map.1 hv
    rfl

theorem dig_load {w : World} {b o : Nat} {d : Dig} (h : w.rangeAt b o (digL d)) : (Instr.loadAt 28 (.pointer (some ⟨b, o, none⟩))).run Try.prog w = .ok (.agg (digC d)) w :=
  run_loadAt_mid w b o _ (digL d) _ h Try.underlying28 rfl (by rw [digL_len]; rfl)
theorem dig_load' {w : World} {b o : Nat} {d : Dig} (h : w.rangeAt b o (digL d)) : (Instr.loadAt 27 (.pointer (some ⟨b, o, none⟩))).run Try.prog w = .ok (.agg (digC d)) w :=
  run_loadAt_mid w b o _ (digL d) _ h Try.underlying27 rfl (by rw [digL_len]; rfl)
theorem dig_store {w : World} {b o : Nat} {d : Dig} (h : w.there b o 8) : (Instr.storeAt 28 (.pointer (some ⟨b, o, none⟩)) (.agg (digC d))).run Try.prog w = .ok () (w.setCells b o (digL d)) :=
  run_storeAt_mid w b o _ (digC d) (by rw [digC_size]; exact h) (by rw [digC_size]; rfl) (digC_one d)

/-- As a walk meets them: a digest out of memory, into memory. -/
theorem wl_load {ops : Array Oper} {rest : List Oper} {op : Oper} {a : Act} {w : World} {Q : Exit → Act → World → Prop} {b o : Nat} {d : Dig} (hc : w.rangeAt b o (digL d)) (hgd : op.guard = none) (x : Operand) (ho : op.op = .load 28 x)
    (hx : a.eval x = .pointer (some ⟨b, o, none⟩)) (h : wpList Try.prog ops Q rest (a.put op.dst (.agg (digC d))) w) : wpList Try.prog ops Q (op :: rest) a w :=
  wpList_load_mid hgd _ x ho b o hx (digL d) _ hc Try.underlying28 rfl (by rw [digL_len]; rfl) h
theorem wl_load' {ops : Array Oper} {rest : List Oper} {op : Oper} {a : Act} {w : World} {Q : Exit → Act → World → Prop} {b o : Nat} {d : Dig} (hc : w.rangeAt b o (digL d)) (hgd : op.guard = none) (x : Operand) (ho : op.op = .load 27 x)
    (hx : a.eval x = .pointer (some ⟨b, o, none⟩)) (h : wpList Try.prog ops Q rest (a.put op.dst (.agg (digC d))) w) : wpList Try.prog ops Q (op :: rest) a w :=
  wpList_load_mid hgd _ x ho b o hx (digL d) _ hc Try.underlying27 rfl (by rw [digL_len]; rfl) h
theorem wl_store {ops : Array Oper} {rest : List Oper} {op : Oper} {a : Act} {w : World} {Q : Exit → Act → World → Prop} {b o : Nat} (d : Dig) (ht : w.there b o 8) (hgd : op.guard = none) (x y : Operand) (ho : op.op = .store 28 x y)
    (hx : a.eval x = .pointer (some ⟨b, o, none⟩)) (hy : a.eval y = .agg (digC d)) (h : wpList Try.prog ops Q rest (a.put op.dst undef) (w.setCells b o (digL d))) : wpList Try.prog ops Q (op :: rest) a w :=
  wpList_store_mid hgd _ x y ho b o (digC d) hx hy (by rw [digC_size]; exact ht) (by rw [digC_size]; rfl) (digC_one d) h

theorem u8_size (w : World) : (sizeOf 5).run Try.prog w = .ok 1 w := by
  have hi : (Try.prog.info? 5).map (·.size) = some 1 := rfl
  cases h : Try.prog.info? 5 with
  | none => rw [h] at hi; cases hi
  | some i => rw [h] at hi; simp [sizeOf, typeInfo, h]; simpa using hi

/-- Two digests compared, as a walk meets it. -/
@[go_sem] theorem dig_eqIn (w : World) (a b : Dig) : (Op.equalIn 10000 28 (.agg (digC a)) (.agg (digC b))).run Try.prog w = .ok (decide (a = b)) w := by
  rw [show (10000 : Nat) = 9998 + 2 from rfl]
  unfold digC digL
  rw [run_equalIn_bytes w 9998 _ _ 8 Try.underlying28 Try.underlying5 u8_size a.1 b.1 a.2 b.2]
  congr 1
  rw [Bool.eq_iff_iff]
  simp [Subtype.ext_iff]

end Go.Proofs.Ytdpcbehgoljgeaa
