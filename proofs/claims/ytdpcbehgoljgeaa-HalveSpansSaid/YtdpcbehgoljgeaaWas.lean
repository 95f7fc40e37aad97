/- Of the statement HalveSpans: was a digest said? -/
import Derived.Test.YtdpcbehgoljgeaaHalG
import Derived.Test.YtdpcbehgoljgeaaSpanP
namespace Go.Proofs.Ytdpcbehgoljgeaa
open Go.RowKit

/-- Digests as a slice's elements. -/
def digE : El Dig := ⟨28, 8, digL⟩
theorem digE_ok : digE.Ok := ⟨fun x => digL_len x, by decide, fun x u hu => digL_one x u hu⟩

theorem dig_at {w : World} {ao : Option Addr} {n c i : Nat} {l : List Dig} {x : Dig} (hR : RdS digE w ao n c l) (hx : l[i]? = some x) : ∃ b o, ao = some ⟨b, o, none⟩ ∧ w.rangeAt b (o + i * 8) (digL x) := by
  obtain ⟨b, o, rfl, _⟩ := hR.cell digE_ok hx (j := 0) (u := (digL x)[0]'(by rw [digL_len]; omega)) (List.getElem?_eq_getElem _)
  refine ⟨b, o, rfl, fun j v hv => ?_⟩
  obtain ⟨b', o', e, hc⟩ := hR.cell digE_ok hx (j := j) (u := v) hv
  cases e
  rw [show o + i * 8 + j = o + (i * digE.size + j) by show _ = o + (i * 8 + j); omega]
  exact hc

/-- Are two digests the same, as a word that the walk leaves alone. -/
def dEq (a b : Dig) : Bool := decide (a = b)

set_option maxRecDepth 100000 in
theorem dig_eql (w : World) (a0 a1 a2 a3 a4 a5 a6 a7 b0 b1 b2 b3 b4 b5 b6 b7 : UInt8) :
    (binOp .eql 28 (.agg #[.int .u8 (a0.toNat : Int), .int .u8 (a1.toNat : Int), .int .u8 (a2.toNat : Int), .int .u8 (a3.toNat : Int), .int .u8 (a4.toNat : Int), .int .u8 (a5.toNat : Int), .int .u8 (a6.toNat : Int), .int .u8 (a7.toNat : Int)])
      (.agg #[.int .u8 (b0.toNat : Int), .int .u8 (b1.toNat : Int), .int .u8 (b2.toNat : Int), .int .u8 (b3.toNat : Int), .int .u8 (b4.toNat : Int), .int .u8 (b5.toNat : Int), .int .u8 (b6.toNat : Int), .int .u8 (b7.toNat : Int)])).run Try.prog w =
      .ok (.bool (dEq ⟨[a0, a1, a2, a3, a4, a5, a6, a7], rfl⟩ ⟨[b0, b1, b2, b3, b4, b5, b6, b7], rfl⟩)) w := by
  have h := dig_eqIn w ⟨[a0, a1, a2, a3, a4, a5, a6, a7], rfl⟩ ⟨[b0, b1, b2, b3, b4, b5, b6, b7], rfl⟩
  unfold binOp Op.equal Op.maxDepth dEq
  rw [Sem.run_bind]
  have h' : (Op.equalIn 10000 28 (.agg #[.int .u8 (a0.toNat : Int), .int .u8 (a1.toNat : Int), .int .u8 (a2.toNat : Int), .int .u8 (a3.toNat : Int), .int .u8 (a4.toNat : Int), .int .u8 (a5.toNat : Int), .int .u8 (a6.toNat : Int), .int .u8 (a7.toNat : Int)])
      (.agg #[.int .u8 (b0.toNat : Int), .int .u8 (b1.toNat : Int), .int .u8 (b2.toNat : Int), .int .u8 (b3.toNat : Int), .int .u8 (b4.toNat : Int), .int .u8 (b5.toNat : Int), .int .u8 (b6.toNat : Int), .int .u8 (b7.toNat : Int)])).run Try.prog w = _ := h
  rw [h']
  rfl
attribute [go_sem high] dig_eql

set_option maxRecDepth 100000 in
set_option maxHeartbeats 2000000 in
theorem was_any {w : World} {ao : Option Addr} {n c : Nat} {l : List Dig} {d : Dig} (hR : RdS digE w ao n c l) (hn : n ≤ 140737488351232) (hd : d ∈ l) :
    Calls Try.prog 12 #[.slice ao n c, .agg (digC d)] w fun e w' => e = .returned (.bool true) ∧ Below w.heap.size w w' := by
  go_enter Try.func12, Try.ntmps12
  obtain ⟨W1, hW1⟩ : ∃ W1, w.alloc (.cells (digC d) 28 (0, 0)) = W1 := ⟨_, rfl⟩
  have hb := below_alloc w (.cells (digC d) 28 (0, 0))
  have hr := box_dig w d
  rw [hW1] at hb hr
  go_wp2_with fail
  have HW := hide hW1
  clear hW1
  go_loopw [5] (fun v5 wr => ∃ (i : Nat), v5 = .int .i64 i ∧ i ≤ n ∧ d ∈ l.drop i ∧ Below w.heap.size w wr ∧ wr.rangeAt w.heap.size 0 (digL d)) (fun v5 _ => n - (intOf v5).toNat)
  case atStart => exact ⟨0, rfl, Nat.zero_le _, by simpa using hd, hb, hr⟩
  case round =>
    clear hb hr
    obtain ⟨i, rfl, hin, hdi, hW, hr⟩ := hrel
    have hlt : i < n := by
      rcases Nat.lt_or_ge i n with h | h
      · exact h
      · rw [List.drop_of_length_le (by rw [hR.len]; exact h)] at hdi; cases hdi
    have hi : i < l.length := by rw [hR.len]; exact hlt
    obtain ⟨x, hx, hdr⟩ : ∃ x, l[i]? = some x ∧ l.drop i = x :: l.drop (i + 1) := ⟨l[i], List.getElem?_eq_getElem hi, List.drop_eq_getElem_cons hi⟩
    rw [hdr] at hdi
    have HD := hide hdi
    clear hdi hdr
    obtain ⟨b, o, rfl, rx⟩ := dig_at (hR.below hW) hx
    have ht : (dEq x d = true) ∨ (dEq x d = false ∧ d ∈ l.drop (i + 1)) := by
      unfold dEq
      by_cases h : x = d
      · exact .inl (by simp [h])
      · refine .inr ⟨by simp [h], ?_⟩
        rcases List.mem_cons.1 HD.out with h2 | h2
        · exact absurd h2.symm h
        · exact h2
    have hr0 := hr
    obtain ⟨a0, a1, a2, a3, a4, a5, a6, a7, ha⟩ := dig_ex x
    obtain ⟨b0, b1, b2, b3, b4, b5, b6, b7, hb⟩ := dig_ex d
    rw [ha] at rx
    rw [hb] at hr
    rw [ha, hb] at ht
    have c0 := rx 0 _ rfl
    have c1 := rx 1 _ rfl
    have c2 := rx 2 _ rfl
    have c3 := rx 3 _ rfl
    have c4 := rx 4 _ rfl
    have c5 := rx 5 _ rfl
    have c6 := rx 6 _ rfl
    have c7 := rx 7 _ rfl
    simp only [Nat.reduceAdd, Extern.Stop.cell] at c0 c1 c2 c3 c4 c5 c6 c7
    have e0 := hr 0 _ rfl
    have e1 := hr 1 _ rfl
    have e2 := hr 2 _ rfl
    have e3 := hr 3 _ rfl
    have e4 := hr 4 _ rfl
    have e5 := hr 5 _ rfl
    have e6 := hr 6 _ rfl
    have e7 := hr 7 _ rfl
    simp only [Nat.reduceAdd, Extern.Stop.cell] at e0 e1 e2 e3 e4 e5 e6 e7
    simp only [Nat.zero_add, Nat.add_zero] at c0 e0 e1 e2 e3 e4 e5 e6 e7
    clear rx hr ha hx
    have HB := hide hb
    clear hb
    rcases ht with t1 | ⟨t1, t2⟩
    · go_wp2_with fail
      go_quiet (fail)
      go_wp2_with fail
      go_ret
      exact ⟨rfl, below_drewN hW _⟩
    · have HT := hide t2
      clear t2
      go_wp2_with fail
      go_quiet (fail)
      go_wp2_with fail
      go_roundw
      case rel => exact ⟨i + 1, by simp, by omega, by rw [HB.out]; exact HT.out, below_drewN hW _, hr0⟩
      case measure => simp [intOf]; omega

theorem sTD : SliceT Try.prog 40 digE.e (.agg #[.int .u8 0, .int .u8 0, .int .u8 0, .int .u8 0, .int .u8 0, .int .u8 0, .int .u8 0, .int .u8 0]) digE.size 8 := ⟨Try.underlying40, by kernel_rfl, rfl, by decide⟩

/-- A block that was there before an owned slice is not that slice's. -/
theorem OwnS.apart {α : Type} {E : El α} {w : World} {base g n c : Nat} {ao : Option Addr} {l : List α} (h : OwnS E w base ao n c l) (hg : g < base) : (Value.slice ao n c).ownBlock = none ∨ (Value.slice ao n c).ownBlock ≠ some g := by
  cases ao with
  | none => exact .inl rfl
  | some ad =>
    obtain ⟨g2, rfl, hb, _⟩ := h.addr ad rfl
    refine .inr ?_
    simp [Value.ownBlock]
    omega
theorem OwnS.apart' {α : Type} {E : El α} {w : World} {base g n c : Nat} {ao : Option Addr} {l : List α} (h : OwnS E w base ao n c l) (hg : g < base) : (Value.slice ao n c).ownBlock ≠ some g := by
  rcases h.apart hg with e | e
  · rw [e]; intro h; cases h
  · exact e

theorem build_key (x0 x1 x2 x3 x4 x5 x6 x7 : Value) (b0 b1 b2 b3 b4 b5 b6 b7 : UInt8) : (Array.foldl (fun (cs : Array Value) (x : Value × Nat) => cs.setIfInBounds x.snd x.fst) #[x0, x1, x2, x3, x4, x5, x6, x7] (digC ⟨[b0, b1, b2, b3, b4, b5, b6, b7], rfl⟩).zipIdx 0 8).toList = digE.enc ⟨[b0, b1, b2, b3, b4, b5, b6, b7], rfl⟩ := by kernel_rfl

/-- A slice of one digest, as a walk lays it out. -/
theorem build_one {init : Array Value} (hi : init.size = 8) (d : Dig) : (Array.foldl (fun (cs : Array Value) (x : Value × Nat) => cs.setIfInBounds x.snd x.fst) init (digC d).zipIdx 0 8).toList = digE.enc d := by
  obtain ⟨b0, b1, b2, b3, b4, b5, b6, b7, rfl⟩ := dig_ex d
  match init, hi with
  | ⟨[x0, x1, x2, x3, x4, x5, x6, x7]⟩, _ => exact build_key x0 x1 x2 x3 x4 x5 x6 x7 b0 b1 b2 b3 b4 b5 b6 b7

/-- A digest's slice of two, as a walk has laid it out. -/
theorem own_two (w : World) (a b : Dig) {cs : Array Value} (hcs : cs = (digL a ++ digL b).toArray) : OwnS digE (w.alloc (.cells cs 28)) w.heap.size (some ⟨w.heap.size, 0, none⟩) 2 2 [a, b] := by
  refine ⟨?_, rfl⟩
  have := World.ownsRow_lit (e := digE.e) (size := digE.size) (base := w.heap.size) w cs 2 (Nat.le_refl _) (by unfold maxLen; omega) (by rw [hcs]; simp [digL_len, digE])
  rw [show cs.toList = [a, b].flatMap digE.enc by rw [hcs]; simp [digE]] at this
  exact this
end Go.Proofs.Ytdpcbehgoljgeaa
