/- OctetReads: whatever a reader reads of any bytes, its answers, what is left and its error are the document's. -/
import Derived.Test.YtpnliafjiookpaaRdK
import Derived.Deep.RegionHeld3
namespace Go.Proofs.Ytpnliafjiookpaa
open Go.RowKit

set_option maxRecDepth 100000 in
set_option maxHeartbeats 8000000 in
theorem reads_any {bo ao : Option Addr} {bn bc n c : Nat} {bs : List UInt8} {acts : List ActX} {w : World} (hB : RdB w bo bn bc bs) (hb : bn ≤ 140737488351232) (hA : RdS actE w ao n c acts) (hG : ∀ x ∈ acts, x.Ok) (hn : n ≤ 140737488351232) :
    Calls Try.prog 10 #[.slice bo bn bc, .slice ao n c] w fun e w' => e = .returned (.bool true) ∧ Below w.heap.size w w' := by
  have hbc := hB.cap
  obtain ⟨b1, e1, q1, q3⟩ := cut_is bn 200 (by omega)
  have hB := hB.take byteE_ok q1
  generalize bs.take b1 = bs at hB
  have HG := hide hG
  clear hG
  go_enter Try.func10, Try.ntmps10
  go_wp2_with (at_builtin; refine wpList_app byteE_ok sT8 rfl (.tmp 19) (.tmp 24) rfl rfl (OwnS.emptyRow _ (Nat.le_refl _)) rfl (hB.below (below_alloc w _)) ?_ ?_ ?_ ?_)
  · omega
  · unfold maxLen; omega
  · simp
  intro xa xk w1 hox hg _
  have hb1 := (below_alloc w (.cells #[] 5)).grown hg (by simp) (fun k hk => by simp [Value.ownBlock] at hk; omega)
  have hxaddr := hide hox.addr
  have hbl := hox.rd.len
  have HBL := hide hbl
  clear hg e1 hbl
  go_wp2_with fail
  refine (newReader_any hox.rd (by omega)).mono ?_
  rintro e w2 ⟨g, rfl, hr, hb2⟩
  have hox := hox.below hb2
  have hbw := below_trans hb1 hb2
  have hwg : w.heap.size ≤ g := by have := hr.le; have := hb1.size; omega
  go_wp2_with (at_builtin; refine wpList_app byteE_ok sT8 rfl (.tmp 28) (.tmp 29) rfl rfl (OwnS.emptyRow _ (Nat.le_refl _)) rfl (hox.rd.below (below_alloc w2 _)) ?_ ?_ ?_ ?_)
  · omega
  · unfold maxLen; omega
  · simp
  intro mo mc w3 hmo hg _
  have hb3 := (below_alloc w2 (.cells #[] 5)).grown hg (by simp) (fun k hk => by simp [Value.ownBlock] at hk; omega)
  have bW := below_alloc w3 (.cells #[.slice mo b1 mc, .int .i64 0, .int .i64 0] 51 (0, 0))
  have zW := heap_alloc_new w3 (.cells #[.slice mo b1 mc, .int .i64 0, .int .i64 0] 51 (0, 0))
  have hr := (hr.below hb3).below bW
  have hox := (hox.below hb3).below bW
  have hmo := hmo.below bW
  have hs2 : w1.heap.size ≤ w2.heap.size := hb2.size
  have hs3 : w2.heap.size ≤ w3.heap.size := hb3.size
  have hs1 : w.heap.size ≤ w1.heap.size := hb1.size
  have hbw := below_trans (below_trans hbw hb3) bW
  clear hg hb1 hb2 hb3 bW
  go_upto_region 4 with fail
  generalize w3.alloc (.cells #[.slice mo b1 mc, .int .i64 0, .int .i64 0] 51 (0, 0)) = W4 at *
  obtain ⟨g6, hg6⟩ : ∃ g6, g6 = w3.heap.size := ⟨_, rfl⟩
  rw [← hg6] at zW ⊢
  have hg61 : w1.heap.size ≤ g6 := by omega
  clear hg6
  go_wp2_with fail
  go_loopw [7] (fun v7 wr => ∃ (i : Nat) (l : List UInt8), v7 = .int .i64 i ∧ i ≤ b1 ∧ OwnB wr w.heap.size xa b1 xk l ∧ Rdr wr w1.heap.size g (bs, 0) ∧ wr.heap[g6]? = some (.cells #[.slice mo b1 mc, .int .i64 0, .int .i64 0] 51 (0, 0)) ∧ OwnB wr w2.heap.size mo b1 mc bs ∧ Below w.heap.size w wr) (fun v7 _ => b1 - (intOf v7).toNat)
  case atStart => exact ⟨0, bs, rfl, Nat.zero_le _, hox, hr, zW, by simpa using hmo, hbw⟩
  case round =>
    clear hox hr zW hmo hbw
    obtain ⟨i, l, rfl, hib, hox, hr, hz, hmo, hb⟩ := hrel
    by_cases hlt : i < b1
    · obtain ⟨bx, ox, rfl, hc⟩ := hox.rd.byte i hlt
      obtain ⟨gx, e, h1, h2⟩ := hxaddr.out _ rfl
      cases e
      rw [Nat.zero_add] at hc
      have hf := hox.free i
      have iI : (i : Int) < b1 := by omega
      have hox2 := hox.put1 i 7 (u := .int .u8 7) (fun _ => rfl) rfl
      have hg1 := grown_setCell wr ⟨bx, i, none⟩ (.int .u8 7)
      have hr2 := hr.keep hg1 (fun k hk => by cases hk; exact h2)
      have hz2 := z_keep hg1 hz (fun e => by have := Option.some.inj e; simp at this; omega)
      have hmo2 := hmo.grown hg1 (.inr (hmo.notAt (by show bx < _; omega)))
      have hb2 := hb.grown hg1 hb.size (fun k hk => by cases hk; exact h1)
      clear hox hr hz hmo hb hg1
      go_wp2_with fail
      go_roundw
      case rel => exact ⟨i + 1, _, by simp, by omega, hox2, hr2, hz2, hmo2, hb2⟩
      case measure => simp [intOf]; omega
    · have hst : RdSt wr w1.heap.size g g6 mo b1 mc bs (bs, 0) 0 := ⟨hr, hz, Nat.zero_le _, rfl, hmo.mono (Nat.zero_le _)⟩
      clear hox hr hz hmo
      go_wp2_with fail
      go_loopw [8] (fun v8 wr => ∃ (i : Nat) (s : List UInt8 × Nat) (at1 : Nat), v8 = .int .i64 i ∧ i ≤ n ∧ i ≤ 30 ∧ RdSt wr w1.heap.size g g6 mo b1 mc bs s at1 ∧ Below w.heap.size w wr) (fun v8 _ => n - (intOf v8).toNat)
      case atStart => exact ⟨0, _, 0, rfl, Nat.zero_le _, by omega, hst, hb⟩
      case round =>
        clear hst hb
        obtain ⟨i, s, at1, rfl, hin, hi30, hst, hb⟩ := hrel
        by_cases hlt : i < n ∧ i < 30
        · obtain ⟨hlt1, hlt2⟩ := hlt
          obtain ⟨x, hx, _, _, hmem⟩ := hA.next hlt1
          obtain ⟨b, o, rfl, c0, c1, c2⟩ := act_at (hA.below hb) hx
          obtain ⟨hI, hU⟩ := HG.out x hmem
          have i1 : (i : Int) < n := by omega
          have i2 : (i : Int) < 30 := by omega
          have hzA := heap_alloc_new wr (.cells #[.int .i64 x.kind, .int .i64 x.n, .int .u64 (x.most : Int)] 53 (0, 0))
          have bA := below_alloc wr (.cells #[.int .i64 x.kind, .int .i64 x.n, .int .u64 (x.most : Int)] 53 (0, 0))
          have hlA := lt_of_block hst.hz
          have hlB := hst.rd.lt
          have hst := hst.below bA
          have hb := below_trans hb bA
          clear hx hmem bA
          go_upto_region 14 with fail
          generalize wr.alloc (.cells #[.int .i64 x.kind, .int .i64 x.n, .int .u64 (x.most : Int)] 53 (0, 0)) = W5 at *
          obtain ⟨gA, hgA⟩ : ∃ gA, gA = wr.heap.size := ⟨_, rfl⟩
          rw [← hgA] at hzA hlA hlB ⊢
          clear hgA c0 c1 c2
          obtain ⟨c0, c1, c2, _⟩ := box_cells hzA
          iterate 8 (first | go_values | go_skip | go_guarded | go_step | go_upon | go_back)
          go_cut [10, 11, 12, 13, 14, 15, 16, 17, 18] from 57 to 120 (fun v10 _ _ _ _ _ _ _ _ wq => ∃ (s2 : List UInt8 × Nat) (at2 : Nat), v10 = .bool true ∧ RdSt wq w1.heap.size g g6 mo b1 mc bs s2 at2 ∧ Below w.heap.size w wq)
          case first =>
            cases t0 : x.kind == 0
            · cases t1 : x.kind == 1
              · cases t2 : x.kind == 2
                · cases t3 : x.kind == 3
                  · go_wp2_with fail
                    go_meet
                    case rel => exact ⟨s, at1, rfl, hst, hb⟩
                  · skip
                    obtain ⟨m0, m1, m2, _⟩ := hst.cells
                    go_wp2_with fail
                    have hall := someR_any (er := s.2) (most := x.n) hst.mb.rd hst.le (by omega) hI
                    rw [show (bs.drop at1, s.2) = s from Prod.ext hst.dr rfl] at hall
                    refine hall.mono ?_
                    rintro e w5 ⟨at2, xo, xn, xc, rfl, hle2, hdr2, hxo, hb5⟩
                    clear hall
                    have hst5 := hst.below hb5
                    have bX := below_alloc w5 (.cells #[.slice mo b1 mc, .int .i64 (at2 : Nat), .int .i64 ((bytesR x.n s).1.2 : Nat)] 51 (0, 0))
                    have zX := heap_alloc_new w5 (.cells #[.slice mo b1 mc, .int .i64 (at2 : Nat), .int .i64 ((bytesR x.n s).1.2 : Nat)] 51 (0, 0))
                    have hlX := lt_of_block hst5.hz
                    have hlY := hst5.rd.lt
                    have hst6 := hst5.below bX
                    have hb56 := below_trans hb5 bX
                    have hb6 := below_trans hb hb56
                    have hzA6 := z_keep (grown_of_below hb56 none) hzA (fun e => by cases e)
                    have hxo6 := (hxo.below bX).mono (Nat.zero_le _)
                    clear m0 m1 m2 hst hst5 hb hb5 bX hzA hb56 hxo
                    go_upto_region 27 with fail
                    generalize w5.alloc (.cells #[.slice mo b1 mc, .int .i64 (at2 : Nat), .int .i64 ((bytesR x.n s).1.2 : Nat)] 51 (0, 0)) = W6 at *
                    obtain ⟨gX, hgX⟩ : ∃ gX, gX = w5.heap.size := ⟨_, rfl⟩
                    rw [← hgX] at zX hlX hlY ⊢
                    clear hgX c0 c1 c2
                    have hrow : ∀ (W W' : World) (q : Nat) (cs : Array Value) (t : TypeId), (W.heap[gX]? = some (.cells #[.slice mo b1 mc, .int .i64 (at2 : Nat), .int .i64 ((bytesR x.n s).1.2 : Nat)] 51 (0, 0)) ∧ W.heap[gA]? = some (.cells #[.int .i64 x.kind, .int .i64 x.n, .int .u64 (x.most : Int)] 53 (0, 0)) ∧ OwnB W 0 xo xn xc (bytesR x.n s).2) → W.heap[q]? = some (.cells cs t (0, 0)) → t ≠ byteE.e → q < gA → q < gX → W.grownBy W' (some q) → (W'.heap[gX]? = some (.cells #[.slice mo b1 mc, .int .i64 (at2 : Nat), .int .i64 ((bytesR x.n s).1.2 : Nat)] 51 (0, 0)) ∧ W'.heap[gA]? = some (.cells #[.int .i64 x.kind, .int .i64 x.n, .int .u64 (x.most : Int)] 53 (0, 0)) ∧ OwnB W' 0 xo xn xc (bytesR x.n s).2) := fun W W' q cs t hr hq ht h1 h2 hg =>
                      ⟨z_keep hg hr.1 (fun e => by have := Option.some.inj e; omega), z_keep hg hr.2.1 (fun e => by have := Option.some.inj e; omega), hr.2.2.grown hg (.inr (hr.2.2.notRow hq ht))⟩
                    have hbel : ∀ (W W' : World), (W.heap[gX]? = some (.cells #[.slice mo b1 mc, .int .i64 (at2 : Nat), .int .i64 ((bytesR x.n s).1.2 : Nat)] 51 (0, 0)) ∧ W.heap[gA]? = some (.cells #[.int .i64 x.kind, .int .i64 x.n, .int .u64 (x.most : Int)] 53 (0, 0)) ∧ OwnB W 0 xo xn xc (bytesR x.n s).2) → Below W.heap.size W W' → (W'.heap[gX]? = some (.cells #[.slice mo b1 mc, .int .i64 (at2 : Nat), .int .i64 ((bytesR x.n s).1.2 : Nat)] 51 (0, 0)) ∧ W'.heap[gA]? = some (.cells #[.int .i64 x.kind, .int .i64 x.n, .int .u64 (x.most : Int)] 53 (0, 0)) ∧ OwnB W' 0 xo xn xc (bytesR x.n s).2) := fun W W' hr hg =>
                      ⟨z_keep (grown_of_below hg none) hr.1 (fun e => by cases e), z_keep (grown_of_below hg none) hr.2.1 (fun e => by cases e), hr.2.2.below hg⟩
                    have hS : ∀ W : World, (W.heap[gX]? = some (.cells #[.slice mo b1 mc, .int .i64 (at2 : Nat), .int .i64 ((bytesR x.n s).1.2 : Nat)] 51 (0, 0)) ∧ W.heap[gA]? = some (.cells #[.int .i64 x.kind, .int .i64 x.n, .int .u64 (x.most : Int)] 53 (0, 0)) ∧ OwnB W 0 xo xn xc (bytesR x.n s).2) → W.cell? ⟨gX, 0, none⟩ = some (.slice mo b1 mc) ∧ W.cell? ⟨gX, 1, none⟩ = some (.int .i64 (at2 : Nat)) ∧ W.cell? ⟨gX, 2, none⟩ = some (.int .i64 ((bytesR x.n s).1.2 : Nat)) ∧ W.cell? ⟨gA, 1, none⟩ = some (.int .i64 x.n) ∧ (convert 22 9 (.slice xo xn xc)).run Try.prog W = .ok (.string (strOf (bytesR x.n s).2)) W := fun W ⟨h1, h2, h3⟩ => by
                      obtain ⟨z0, z1, z2, _⟩ := box_cells h1
                      obtain ⟨y0, y1, y2, _⟩ := box_cells h2
                      exact ⟨z0, z1, z2, y1, conv_bytes h3.rd⟩
                    have r0 := hbel W6 W6.drew ⟨zX, hzA6, hxo6⟩ (Below.refl _ _).drew
                    have hb6 := hb6.drew
                    have hst6 := hst6.below (Below.refl _ _).drew
                    have HROW := hide hrow
                    have HBEL := hide hbel
                    have HS := hide hS
                    have hg6n := hst6.hz
                    obtain ⟨_, hgrow⟩ := hst6.rd.row
                    have r1 := hrow _ _ g6 _ _ r0 hg6n (by decide) (by omega) (by omega) (box_grown W6.drew g6 (.slice mo b1 mc) (.int .i64 (at2 : Nat)) (.int .i64 ((bytesR x.n s).1.2 : Nat)))
                    have hb7 := hb6.grown (box_grown W6.drew g6 (.slice mo b1 mc) (.int .i64 (at2 : Nat)) (.int .i64 ((bytesR x.n s).1.2 : Nat))) hb6.size (fun k hk => by cases hk; omega)
                    have hrd1 := hst6.stored (at2 : Nat) ((bytesR x.n s).1.2 : Nat)
                    obtain ⟨_, hgrow1⟩ := hrd1.row
                    obtain ⟨q0, q1, q2, q3⟩ := hst6.cells
                    have q4 := q3 0
                    have q5 := q3 1
                    have q6 := q3 2
                    have hrd0 := hst6.rd
                    clear q3 hrow hbel hS zX hzA6 hxo6
                    go_region_held3 (fun w' : World => w'.cell? ⟨gX, 0, none⟩ = some (.slice mo b1 mc) ∧ w'.cell? ⟨gX, 1, none⟩ = some (.int .i64 (at2 : Nat)) ∧ w'.cell? ⟨gX, 2, none⟩ = some (.int .i64 ((bytesR x.n s).1.2 : Nat)) ∧ w'.cell? ⟨gA, 1, none⟩ = some (.int .i64 x.n) ∧ (convert 22 9 (.slice xo xn xc)).run Try.prog w' = .ok (.string (strOf (bytesR x.n s).2)) w') (first | exact HS.out _ r0 | exact HS.out _ r1 | exact HS.out _ r2 | exact HS.out _ r3) (first
                      | (go_at_call 28; refine (text_any (most := x.n) hrd0 hI).mono ?_; rintro e w8 ⟨rfl, hr8, hg8⟩; have hfin := hst6.callStore hr8 hg8 hle2 hdr2; have hq8 := hst6.rowAt hg8; have r2 := HROW.out _ _ g _ _ r0 hgrow (by decide) (by omega) (by omega) hg8; have r3 := HROW.out _ _ g6 _ _ r2 hq8 (by decide) (by omega) (by omega) (box_grown w8 g6 (.slice mo b1 mc) (.int .i64 (at2 : Nat)) (.int .i64 ((bytesR x.n s).1.2 : Nat))); have hbe := hb6.grown hg8 hb6.size (fun k hk => by cases hk; exact hwg); have hbf := hbe.grown (box_grown w8 g6 (.slice mo b1 mc) (.int .i64 (at2 : Nat)) (.int .i64 ((bytesR x.n s).1.2 : Nat))) hbe.size (fun k hk => by cases hk; omega); obtain ⟨u0, u1, u2, u3⟩ := box_cells hq8; have u4 := u3 0; have u5 := u3 1; have u6 := u3 2)
                      | (go_at_call 28; refine (text_any (most := x.n) hrd1 hI).mono ?_; rintro e w8 ⟨rfl, hr8, hg8⟩; have hfin := hst6.storeCall hr8 hg8 hle2 hdr2; have hq8 := hfin.hz; have r2 := HROW.out _ _ g _ _ r1 hgrow1 (by decide) (by omega) (by omega) hg8; have r3 := r2; have hbe := hb7.grown hg8 hb7.size (fun k hk => by cases hk; exact hwg); have hbf := hbe))
                    all_goals
                      go_wp2_with fail
                      go_meet
                      case rel =>
                        first
                          | exact ⟨_, at2, rfl, hfin, hbf⟩
                · skip
                  have hlenF : (bytesR x.n s).2.length ≤ 140737488355328 := by
                    have h1 := hst.mb.rd.len
                    have h2 := congrArg List.length hst.dr
                    rw [List.length_drop] at h2
                    unfold bytesR
                    split
                    · simp
                    · split
                      · simp
                      · split
                        · simp
                        · split
                          · simp
                          · simp only [List.length_take, List.length_drop]; omega
                  obtain ⟨m0, m1, m2, _⟩ := hst.cells
                  go_wp2_with fail
                  have hall := someR_any (er := s.2) (most := x.n) hst.mb.rd hst.le (by omega) hI
                  rw [show (bs.drop at1, s.2) = s from Prod.ext hst.dr rfl] at hall
                  refine hall.mono ?_
                  rintro e w5 ⟨at2, xo, xn, xc, rfl, hle2, hdr2, hxo, hb5⟩
                  clear hall
                  have hst5 := hst.below hb5
                  have bX := below_alloc w5 (.cells #[.slice mo b1 mc, .int .i64 (at2 : Nat), .int .i64 ((bytesR x.n s).1.2 : Nat)] 51 (0, 0))
                  have zX := heap_alloc_new w5 (.cells #[.slice mo b1 mc, .int .i64 (at2 : Nat), .int .i64 ((bytesR x.n s).1.2 : Nat)] 51 (0, 0))
                  have hlX := lt_of_block hst5.hz
                  have hlY := hst5.rd.lt
                  have hst6 := hst5.below bX
                  have hb56 := below_trans hb5 bX
                  have hb6 := below_trans hb hb56
                  have hzA6 := z_keep (grown_of_below hb56 none) hzA (fun e => by cases e)
                  have hxo6 := (hxo.below bX).mono (Nat.zero_le _)
                  clear m0 m1 m2 hst hst5 hb hb5 bX hzA hb56 hxo
                  go_upto_region 24 with fail
                  generalize w5.alloc (.cells #[.slice mo b1 mc, .int .i64 (at2 : Nat), .int .i64 ((bytesR x.n s).1.2 : Nat)] 51 (0, 0)) = W6 at *
                  obtain ⟨gX, hgX⟩ : ∃ gX, gX = w5.heap.size := ⟨_, rfl⟩
                  rw [← hgX] at zX hlX hlY ⊢
                  clear hgX c0 c1 c2
                  have hrow : ∀ (W W' : World) (q : Nat) (cs : Array Value) (t : TypeId), (W.heap[gX]? = some (.cells #[.slice mo b1 mc, .int .i64 (at2 : Nat), .int .i64 ((bytesR x.n s).1.2 : Nat)] 51 (0, 0)) ∧ W.heap[gA]? = some (.cells #[.int .i64 x.kind, .int .i64 x.n, .int .u64 (x.most : Int)] 53 (0, 0)) ∧ OwnB W 0 xo xn xc (bytesR x.n s).2) → W.heap[q]? = some (.cells cs t (0, 0)) → t ≠ byteE.e → q < gA → q < gX → W.grownBy W' (some q) → (W'.heap[gX]? = some (.cells #[.slice mo b1 mc, .int .i64 (at2 : Nat), .int .i64 ((bytesR x.n s).1.2 : Nat)] 51 (0, 0)) ∧ W'.heap[gA]? = some (.cells #[.int .i64 x.kind, .int .i64 x.n, .int .u64 (x.most : Int)] 53 (0, 0)) ∧ OwnB W' 0 xo xn xc (bytesR x.n s).2) := fun W W' q cs t hr hq ht h1 h2 hg =>
                    ⟨z_keep hg hr.1 (fun e => by have := Option.some.inj e; omega), z_keep hg hr.2.1 (fun e => by have := Option.some.inj e; omega), hr.2.2.grown hg (.inr (hr.2.2.notRow hq ht))⟩
                  have hbel : ∀ (W W' : World), (W.heap[gX]? = some (.cells #[.slice mo b1 mc, .int .i64 (at2 : Nat), .int .i64 ((bytesR x.n s).1.2 : Nat)] 51 (0, 0)) ∧ W.heap[gA]? = some (.cells #[.int .i64 x.kind, .int .i64 x.n, .int .u64 (x.most : Int)] 53 (0, 0)) ∧ OwnB W 0 xo xn xc (bytesR x.n s).2) → Below W.heap.size W W' → (W'.heap[gX]? = some (.cells #[.slice mo b1 mc, .int .i64 (at2 : Nat), .int .i64 ((bytesR x.n s).1.2 : Nat)] 51 (0, 0)) ∧ W'.heap[gA]? = some (.cells #[.int .i64 x.kind, .int .i64 x.n, .int .u64 (x.most : Int)] 53 (0, 0)) ∧ OwnB W' 0 xo xn xc (bytesR x.n s).2) := fun W W' hr hg =>
                    ⟨z_keep (grown_of_below hg none) hr.1 (fun e => by cases e), z_keep (grown_of_below hg none) hr.2.1 (fun e => by cases e), hr.2.2.below hg⟩
                  have hS : ∀ W : World, (W.heap[gX]? = some (.cells #[.slice mo b1 mc, .int .i64 (at2 : Nat), .int .i64 ((bytesR x.n s).1.2 : Nat)] 51 (0, 0)) ∧ W.heap[gA]? = some (.cells #[.int .i64 x.kind, .int .i64 x.n, .int .u64 (x.most : Int)] 53 (0, 0)) ∧ OwnB W 0 xo xn xc (bytesR x.n s).2) → W.cell? ⟨gX, 0, none⟩ = some (.slice mo b1 mc) ∧ W.cell? ⟨gX, 1, none⟩ = some (.int .i64 (at2 : Nat)) ∧ W.cell? ⟨gX, 2, none⟩ = some (.int .i64 ((bytesR x.n s).1.2 : Nat)) ∧ W.cell? ⟨gA, 1, none⟩ = some (.int .i64 x.n) := fun W ⟨h1, h2, h3⟩ => by
                    obtain ⟨z0, z1, z2, _⟩ := box_cells h1
                    obtain ⟨y0, y1, y2, _⟩ := box_cells h2
                    exact ⟨z0, z1, z2, y1⟩
                  have r0 := hbel W6 W6.drew ⟨zX, hzA6, hxo6⟩ (Below.refl _ _).drew
                  have hb6 := hb6.drew
                  have hst6 := hst6.below (Below.refl _ _).drew
                  have HROW := hide hrow
                  have HBEL := hide hbel
                  have HS := hide hS
                  have hg6n := hst6.hz
                  obtain ⟨_, hgrow⟩ := hst6.rd.row
                  have r1 := hrow _ _ g6 _ _ r0 hg6n (by decide) (by omega) (by omega) (box_grown W6.drew g6 (.slice mo b1 mc) (.int .i64 (at2 : Nat)) (.int .i64 ((bytesR x.n s).1.2 : Nat)))
                  have hb7 := hb6.grown (box_grown W6.drew g6 (.slice mo b1 mc) (.int .i64 (at2 : Nat)) (.int .i64 ((bytesR x.n s).1.2 : Nat))) hb6.size (fun k hk => by cases hk; omega)
                  have hrd1 := hst6.stored (at2 : Nat) ((bytesR x.n s).1.2 : Nat)
                  obtain ⟨_, hgrow1⟩ := hrd1.row
                  obtain ⟨q0, q1, q2, q3⟩ := hst6.cells
                  have q4 := q3 0
                  have q5 := q3 1
                  have q6 := q3 2
                  have hrd0 := hst6.rd
                  clear q3 hrow hbel hS zX hzA6 hxo6
                  go_region_held3 (fun w' : World => w'.cell? ⟨gX, 0, none⟩ = some (.slice mo b1 mc) ∧ w'.cell? ⟨gX, 1, none⟩ = some (.int .i64 (at2 : Nat)) ∧ w'.cell? ⟨gX, 2, none⟩ = some (.int .i64 ((bytesR x.n s).1.2 : Nat)) ∧ w'.cell? ⟨gA, 1, none⟩ = some (.int .i64 x.n)) (first | exact HS.out _ r0 | exact HS.out _ r1 | exact HS.out _ r2 | exact HS.out _ r3 | exact HS.out _ r4 | exact HS.out _ r5) (first
                    | (go_at_call 26; refine (bytes_any (most := x.n) hrd0 hI).mono ?_; rintro e w8 ⟨ya, yn, yc, rfl, hyo, hr8, hg8⟩; have hfin := hst6.callStore hr8 hg8 hle2 hdr2; have hq8 := hst6.rowAt hg8; have r2 := HROW.out _ _ g _ _ r0 hgrow (by decide) (by omega) (by omega) hg8; have r3 := HROW.out _ _ g6 _ _ r2 hq8 (by decide) (by omega) (by omega) (box_grown w8 g6 (.slice mo b1 mc) (.int .i64 (at2 : Nat)) (.int .i64 ((bytesR x.n s).1.2 : Nat))); have hbe := hb6.grown hg8 hb6.size (fun k hk => by cases hk; exact hwg); have hbf := hbe.grown (box_grown w8 g6 (.slice mo b1 mc) (.int .i64 (at2 : Nat)) (.int .i64 ((bytesR x.n s).1.2 : Nat))) hbe.size (fun k hk => by cases hk; omega); obtain ⟨u0, u1, u2, u3⟩ := box_cells hq8; have u4 := u3 0; have u5 := u3 1; have u6 := u3 2; have hy1 := hyo.rd; have hx1 := r2.2.2.rd; have hy2 := (hyo.grown (box_grown w8 g6 (.slice mo b1 mc) (.int .i64 (at2 : Nat)) (.int .i64 ((bytesR x.n s).1.2 : Nat))) (.inr (hyo.notRow hq8 (by decide)))).rd; have hx2 := r3.2.2.rd; have hyl : yn ≤ 140737488355328 := (by rw [← hy1.len]; exact hlenF))
                    | (go_at_call 26; refine (bytes_any (most := x.n) hrd1 hI).mono ?_; rintro e w8 ⟨ya, yn, yc, rfl, hyo, hr8, hg8⟩; have hfin := hst6.storeCall hr8 hg8 hle2 hdr2; have hq8 := hfin.hz; have r2 := HROW.out _ _ g _ _ r1 hgrow1 (by decide) (by omega) (by omega) hg8; have r3 := r2; have hbe := hb7.grown hg8 hb7.size (fun k hk => by cases hk; exact hwg); have hbf := hbe; have hy1 := hyo.rd; have hx1 := r2.2.2.rd; have hyl : yn ≤ 140737488355328 := (by rw [← hy1.len]; exact hlenF))
                    | (go_at_call 17; refine (same_yes hy1 hx1 rfl hyl).mono ?_; rintro e w9 ⟨rfl, hb9⟩; have hq9 := z_keep (grown_of_below hb9 none) hq8 (fun e => by cases e); have r4 := HBEL.out _ _ r2 hb9; have r5 := HROW.out _ _ g6 _ _ r4 hq9 (by decide) (by omega) (by omega) (box_grown w9 g6 (.slice mo b1 mc) (.int .i64 (at2 : Nat)) (.int .i64 ((bytesR x.n s).1.2 : Nat))); obtain ⟨v0, v1, v2, v3⟩ := box_cells hq9; have v4 := v3 0; have v5 := v3 1; have v6 := v3 2)
                    | (go_at_call 17; refine (same_yes hy2 hx2 rfl hyl).mono ?_; rintro e w9 ⟨rfl, hb9⟩; have r4 := HBEL.out _ _ r3 hb9))
                  all_goals
                    go_wp2_with fail
                    go_meet
                    case rel =>
                      first
                        | exact ⟨_, at2, rfl, hfin.below hb9, below_trans hbf hb9⟩
                        | exact ⟨_, at2, rfl, hst6.callStore (hr8.below hb9) (grown_trans hg8 (grown_of_below hb9 _)) hle2 hdr2, (below_trans hbe hb9).grown (box_grown w9 g6 _ _ _) (below_trans hbe hb9).size (fun k hk => by cases hk; omega)⟩
              · skip
                have hUn : U64 (numR 18446744073709551615 s).2 := by
                  have hpk := parse_ok s.1
                  unfold U64 numR
                  split
                  · simp
                  · split
                    · simp
                    · split
                      · simp
                      · simp only; omega
                have t9 : (unf (numR 18446744073709551615 s).2 == unf (numR 18446744073709551615 s).2) = true := by simp
                obtain ⟨m0, m1, m2, _⟩ := hst.cells
                go_wp2_with fail
                have hall := readR_any (er := s.2) (most := 18446744073709551615) hst.mb.rd hst.le (by omega) (by unfold U64; omega)
                rw [show (bs.drop at1, s.2) = s from Prod.ext hst.dr rfl] at hall
                refine hall.mono ?_
                rintro e w5 ⟨at2, rfl, hle2, hdr2, hb5⟩
                clear hall
                have hst5 := hst.below hb5
                have bX := below_alloc w5 (.cells #[.slice mo b1 mc, .int .i64 (at2 : Nat), .int .i64 ((numR 18446744073709551615 s).1.2 : Nat)] 51 (0, 0))
                have zX := heap_alloc_new w5 (.cells #[.slice mo b1 mc, .int .i64 (at2 : Nat), .int .i64 ((numR 18446744073709551615 s).1.2 : Nat)] 51 (0, 0))
                have hlX := lt_of_block hst5.hz
                have hlY := hst5.rd.lt
                have hst6 := hst5.below bX
                have hb56 := below_trans hb5 bX
                have hb6 := below_trans hb hb56
                have hzA6 := z_keep (grown_of_below hb56 none) hzA (fun e => by cases e)

                clear m0 m1 m2 hst hst5 hb hb5 bX hzA hb56
                go_upto_region 21 with fail
                generalize w5.alloc (.cells #[.slice mo b1 mc, .int .i64 (at2 : Nat), .int .i64 ((numR 18446744073709551615 s).1.2 : Nat)] 51 (0, 0)) = W6 at *
                obtain ⟨gX, hgX⟩ : ∃ gX, gX = w5.heap.size := ⟨_, rfl⟩
                rw [← hgX] at zX hlX hlY ⊢
                clear hgX c0 c1 c2
                have hrow : ∀ (W W' : World) (q : Nat) (cs : Array Value) (t : TypeId), (W.heap[gX]? = some (.cells #[.slice mo b1 mc, .int .i64 (at2 : Nat), .int .i64 ((numR 18446744073709551615 s).1.2 : Nat)] 51 (0, 0)) ∧ W.heap[gA]? = some (.cells #[.int .i64 x.kind, .int .i64 x.n, .int .u64 (x.most : Int)] 53 (0, 0))) → W.heap[q]? = some (.cells cs t (0, 0)) → t ≠ byteE.e → q < gA → q < gX → W.grownBy W' (some q) → (W'.heap[gX]? = some (.cells #[.slice mo b1 mc, .int .i64 (at2 : Nat), .int .i64 ((numR 18446744073709551615 s).1.2 : Nat)] 51 (0, 0)) ∧ W'.heap[gA]? = some (.cells #[.int .i64 x.kind, .int .i64 x.n, .int .u64 (x.most : Int)] 53 (0, 0))) := fun W W' q cs t hr hq ht h1 h2 hg =>
                  ⟨z_keep hg hr.1 (fun e => by have := Option.some.inj e; omega), z_keep hg hr.2 (fun e => by have := Option.some.inj e; omega)⟩
                have hbel : ∀ (W W' : World), (W.heap[gX]? = some (.cells #[.slice mo b1 mc, .int .i64 (at2 : Nat), .int .i64 ((numR 18446744073709551615 s).1.2 : Nat)] 51 (0, 0)) ∧ W.heap[gA]? = some (.cells #[.int .i64 x.kind, .int .i64 x.n, .int .u64 (x.most : Int)] 53 (0, 0))) → Below W.heap.size W W' → (W'.heap[gX]? = some (.cells #[.slice mo b1 mc, .int .i64 (at2 : Nat), .int .i64 ((numR 18446744073709551615 s).1.2 : Nat)] 51 (0, 0)) ∧ W'.heap[gA]? = some (.cells #[.int .i64 x.kind, .int .i64 x.n, .int .u64 (x.most : Int)] 53 (0, 0))) := fun W W' hr hg =>
                  ⟨z_keep (grown_of_below hg none) hr.1 (fun e => by cases e), z_keep (grown_of_below hg none) hr.2 (fun e => by cases e)⟩
                have hS : ∀ W : World, (W.heap[gX]? = some (.cells #[.slice mo b1 mc, .int .i64 (at2 : Nat), .int .i64 ((numR 18446744073709551615 s).1.2 : Nat)] 51 (0, 0)) ∧ W.heap[gA]? = some (.cells #[.int .i64 x.kind, .int .i64 x.n, .int .u64 (x.most : Int)] 53 (0, 0))) → W.cell? ⟨gX, 0, none⟩ = some (.slice mo b1 mc) ∧ W.cell? ⟨gX, 1, none⟩ = some (.int .i64 (at2 : Nat)) ∧ W.cell? ⟨gX, 2, none⟩ = some (.int .i64 ((numR 18446744073709551615 s).1.2 : Nat)) := fun W ⟨h1, h2⟩ => by
                  obtain ⟨z0, z1, z2, _⟩ := box_cells h1
                  obtain ⟨y0, y1, y2, _⟩ := box_cells h2
                  exact ⟨z0, z1, z2⟩
                have r0 := hbel W6 W6.drew ⟨zX, hzA6⟩ (Below.refl _ _).drew
                have hb6 := hb6.drew
                have hst6 := hst6.below (Below.refl _ _).drew
                have HROW := hide hrow
                have HBEL := hide hbel
                have HS := hide hS
                have hg6n := hst6.hz
                obtain ⟨_, hgrow⟩ := hst6.rd.row
                have r1 := hrow _ _ g6 _ _ r0 hg6n (by decide) (by omega) (by omega) (box_grown W6.drew g6 (.slice mo b1 mc) (.int .i64 (at2 : Nat)) (.int .i64 ((numR 18446744073709551615 s).1.2 : Nat)))
                have hb7 := hb6.grown (box_grown W6.drew g6 (.slice mo b1 mc) (.int .i64 (at2 : Nat)) (.int .i64 ((numR 18446744073709551615 s).1.2 : Nat))) hb6.size (fun k hk => by cases hk; omega)
                have hrd1 := hst6.stored (at2 : Nat) ((numR 18446744073709551615 s).1.2 : Nat)
                obtain ⟨_, hgrow1⟩ := hrd1.row
                obtain ⟨q0, q1, q2, q3⟩ := hst6.cells
                have q4 := q3 0
                have q5 := q3 1
                have q6 := q3 2
                have hrd0 := hst6.rd
                clear q3 hrow hbel hS zX hzA6
                go_region_held3 (fun w' : World => w'.cell? ⟨gX, 0, none⟩ = some (.slice mo b1 mc) ∧ w'.cell? ⟨gX, 1, none⟩ = some (.int .i64 (at2 : Nat)) ∧ w'.cell? ⟨gX, 2, none⟩ = some (.int .i64 ((numR 18446744073709551615 s).1.2 : Nat))) (first | exact HS.out _ r0 | exact HS.out _ r1 | exact HS.out _ r2 | exact HS.out _ r3) (first
                  | (go_at_call 22; refine (int_any hrd0).mono ?_; rintro e w8 ⟨rfl, hr8, hg8⟩; have hfin := hst6.callStore hr8 hg8 hle2 hdr2; have hq8 := hst6.rowAt hg8; have r2 := HROW.out _ _ g _ _ r0 hgrow (by decide) (by omega) (by omega) hg8; have r3 := HROW.out _ _ g6 _ _ r2 hq8 (by decide) (by omega) (by omega) (box_grown w8 g6 (.slice mo b1 mc) (.int .i64 (at2 : Nat)) (.int .i64 ((numR 18446744073709551615 s).1.2 : Nat))); have hbe := hb6.grown hg8 hb6.size (fun k hk => by cases hk; exact hwg); have hbf := hbe.grown (box_grown w8 g6 (.slice mo b1 mc) (.int .i64 (at2 : Nat)) (.int .i64 ((numR 18446744073709551615 s).1.2 : Nat))) hbe.size (fun k hk => by cases hk; omega); obtain ⟨u0, u1, u2, u3⟩ := box_cells hq8; have u4 := u3 0; have u5 := u3 1; have u6 := u3 2)
                  | (go_at_call 22; refine (int_any hrd1).mono ?_; rintro e w8 ⟨rfl, hr8, hg8⟩; have hfin := hst6.storeCall hr8 hg8 hle2 hdr2; have hq8 := hfin.hz; have r2 := HROW.out _ _ g _ _ r1 hgrow1 (by decide) (by omega) (by omega) hg8; have r3 := r2; have hbe := hb7.grown hg8 hb7.size (fun k hk => by cases hk; exact hwg); have hbf := hbe)
                  | (go_at_call 30; refine (unfold_any hUn).mono ?_; rintro e w9 ⟨rfl, rfl⟩))
                all_goals
                  go_wp2_with fail
                  go_meet
                  case rel =>
                    first
                      | exact ⟨_, at2, rfl, hfin, hbf⟩
            · skip
              obtain ⟨m0, m1, m2, _⟩ := hst.cells
              go_wp2_with fail
              have hall := readR_any (er := s.2) (most := x.most) hst.mb.rd hst.le (by omega) hU
              rw [show (bs.drop at1, s.2) = s from Prod.ext hst.dr rfl] at hall
              refine hall.mono ?_
              rintro e w5 ⟨at2, rfl, hle2, hdr2, hb5⟩
              clear hall
              have hst5 := hst.below hb5
              have bX := below_alloc w5 (.cells #[.slice mo b1 mc, .int .i64 (at2 : Nat), .int .i64 ((numR x.most s).1.2 : Nat)] 51 (0, 0))
              have zX := heap_alloc_new w5 (.cells #[.slice mo b1 mc, .int .i64 (at2 : Nat), .int .i64 ((numR x.most s).1.2 : Nat)] 51 (0, 0))
              have hlX := lt_of_block hst5.hz
              have hlY := hst5.rd.lt
              have hst6 := hst5.below bX
              have hb56 := below_trans hb5 bX
              have hb6 := below_trans hb hb56
              have hzA6 := z_keep (grown_of_below hb56 none) hzA (fun e => by cases e)

              clear m0 m1 m2 hst hst5 hb hb5 bX hzA hb56
              go_upto_region 18 with fail
              generalize w5.alloc (.cells #[.slice mo b1 mc, .int .i64 (at2 : Nat), .int .i64 ((numR x.most s).1.2 : Nat)] 51 (0, 0)) = W6 at *
              obtain ⟨gX, hgX⟩ : ∃ gX, gX = w5.heap.size := ⟨_, rfl⟩
              rw [← hgX] at zX hlX hlY ⊢
              clear hgX c0 c1 c2
              have hrow : ∀ (W W' : World) (q : Nat) (cs : Array Value) (t : TypeId), (W.heap[gX]? = some (.cells #[.slice mo b1 mc, .int .i64 (at2 : Nat), .int .i64 ((numR x.most s).1.2 : Nat)] 51 (0, 0)) ∧ W.heap[gA]? = some (.cells #[.int .i64 x.kind, .int .i64 x.n, .int .u64 (x.most : Int)] 53 (0, 0))) → W.heap[q]? = some (.cells cs t (0, 0)) → t ≠ byteE.e → q < gA → q < gX → W.grownBy W' (some q) → (W'.heap[gX]? = some (.cells #[.slice mo b1 mc, .int .i64 (at2 : Nat), .int .i64 ((numR x.most s).1.2 : Nat)] 51 (0, 0)) ∧ W'.heap[gA]? = some (.cells #[.int .i64 x.kind, .int .i64 x.n, .int .u64 (x.most : Int)] 53 (0, 0))) := fun W W' q cs t hr hq ht h1 h2 hg =>
                ⟨z_keep hg hr.1 (fun e => by have := Option.some.inj e; omega), z_keep hg hr.2 (fun e => by have := Option.some.inj e; omega)⟩
              have hbel : ∀ (W W' : World), (W.heap[gX]? = some (.cells #[.slice mo b1 mc, .int .i64 (at2 : Nat), .int .i64 ((numR x.most s).1.2 : Nat)] 51 (0, 0)) ∧ W.heap[gA]? = some (.cells #[.int .i64 x.kind, .int .i64 x.n, .int .u64 (x.most : Int)] 53 (0, 0))) → Below W.heap.size W W' → (W'.heap[gX]? = some (.cells #[.slice mo b1 mc, .int .i64 (at2 : Nat), .int .i64 ((numR x.most s).1.2 : Nat)] 51 (0, 0)) ∧ W'.heap[gA]? = some (.cells #[.int .i64 x.kind, .int .i64 x.n, .int .u64 (x.most : Int)] 53 (0, 0))) := fun W W' hr hg =>
                ⟨z_keep (grown_of_below hg none) hr.1 (fun e => by cases e), z_keep (grown_of_below hg none) hr.2 (fun e => by cases e)⟩
              have hS : ∀ W : World, (W.heap[gX]? = some (.cells #[.slice mo b1 mc, .int .i64 (at2 : Nat), .int .i64 ((numR x.most s).1.2 : Nat)] 51 (0, 0)) ∧ W.heap[gA]? = some (.cells #[.int .i64 x.kind, .int .i64 x.n, .int .u64 (x.most : Int)] 53 (0, 0))) → W.cell? ⟨gX, 0, none⟩ = some (.slice mo b1 mc) ∧ W.cell? ⟨gX, 1, none⟩ = some (.int .i64 (at2 : Nat)) ∧ W.cell? ⟨gX, 2, none⟩ = some (.int .i64 ((numR x.most s).1.2 : Nat)) ∧ W.cell? ⟨gA, 2, none⟩ = some (.int .u64 (x.most : Int)) := fun W ⟨h1, h2⟩ => by
                obtain ⟨z0, z1, z2, _⟩ := box_cells h1
                obtain ⟨y0, y1, y2, _⟩ := box_cells h2
                exact ⟨z0, z1, z2, y2⟩
              have r0 := hbel W6 W6.drew ⟨zX, hzA6⟩ (Below.refl _ _).drew
              have hb6 := hb6.drew
              have hst6 := hst6.below (Below.refl _ _).drew
              have HROW := hide hrow
              have HBEL := hide hbel
              have HS := hide hS
              have hg6n := hst6.hz
              obtain ⟨_, hgrow⟩ := hst6.rd.row
              have r1 := hrow _ _ g6 _ _ r0 hg6n (by decide) (by omega) (by omega) (box_grown W6.drew g6 (.slice mo b1 mc) (.int .i64 (at2 : Nat)) (.int .i64 ((numR x.most s).1.2 : Nat)))
              have hb7 := hb6.grown (box_grown W6.drew g6 (.slice mo b1 mc) (.int .i64 (at2 : Nat)) (.int .i64 ((numR x.most s).1.2 : Nat))) hb6.size (fun k hk => by cases hk; omega)
              have hrd1 := hst6.stored (at2 : Nat) ((numR x.most s).1.2 : Nat)
              obtain ⟨_, hgrow1⟩ := hrd1.row
              obtain ⟨q0, q1, q2, q3⟩ := hst6.cells
              have q4 := q3 0
              have q5 := q3 1
              have q6 := q3 2
              have hrd0 := hst6.rd
              clear q3 hrow hbel hS zX hzA6
              go_region_held3 (fun w' : World => w'.cell? ⟨gX, 0, none⟩ = some (.slice mo b1 mc) ∧ w'.cell? ⟨gX, 1, none⟩ = some (.int .i64 (at2 : Nat)) ∧ w'.cell? ⟨gX, 2, none⟩ = some (.int .i64 ((numR x.most s).1.2 : Nat)) ∧ w'.cell? ⟨gA, 2, none⟩ = some (.int .u64 (x.most : Int))) (first | exact HS.out _ r0 | exact HS.out _ r1 | exact HS.out _ r2 | exact HS.out _ r3) (first
                | (go_at_call 23; refine (num_any (most := x.most) hrd0 hU).mono ?_; rintro e w8 ⟨rfl, hr8, hg8⟩; have hfin := hst6.callStore hr8 hg8 hle2 hdr2; have hq8 := hst6.rowAt hg8; have r2 := HROW.out _ _ g _ _ r0 hgrow (by decide) (by omega) (by omega) hg8; have r3 := HROW.out _ _ g6 _ _ r2 hq8 (by decide) (by omega) (by omega) (box_grown w8 g6 (.slice mo b1 mc) (.int .i64 (at2 : Nat)) (.int .i64 ((numR x.most s).1.2 : Nat))); have hbe := hb6.grown hg8 hb6.size (fun k hk => by cases hk; exact hwg); have hbf := hbe.grown (box_grown w8 g6 (.slice mo b1 mc) (.int .i64 (at2 : Nat)) (.int .i64 ((numR x.most s).1.2 : Nat))) hbe.size (fun k hk => by cases hk; omega); obtain ⟨u0, u1, u2, u3⟩ := box_cells hq8; have u4 := u3 0; have u5 := u3 1; have u6 := u3 2)
                | (go_at_call 23; refine (num_any (most := x.most) hrd1 hU).mono ?_; rintro e w8 ⟨rfl, hr8, hg8⟩; have hfin := hst6.storeCall hr8 hg8 hle2 hdr2; have hq8 := hfin.hz; have r2 := HROW.out _ _ g _ _ r1 hgrow1 (by decide) (by omega) (by omega) hg8; have r3 := r2; have hbe := hb7.grown hg8 hb7.size (fun k hk => by cases hk; exact hwg); have hbf := hbe))
              all_goals
                go_wp2_with fail
                go_meet
                case rel =>
                  first
                    | exact ⟨_, at2, rfl, hfin, hbf⟩
          case rest =>
            clear hst hb hzA c0 c1 c2
            obtain ⟨s, at1, rfl, hst, hb⟩ := hcut
            have hln : ((s.1.length : Int) != (b1 : Int) - (at1 : Int)) = false := by
              have h1 := congrArg List.length hst.dr
              rw [List.length_drop, HBL.out] at h1
              have h2 := hst.le
              simp
              omega
            have hle : (at1 : Int) ≤ b1 := by have := hst.le; omega
            have hw9 : IntKind.i64.wrap ((b1 : Int) - (at1 : Int)) = (b1 : Int) - (at1 : Int) := by go_arith
            have hes : ((s.2 : Int) != (s.2 : Int)) = false := by simp
            have hen : ((endR s : Int) != (endR s : Int)) = false := by simp
            have hbd := hb.drew
            have hst6 := hst.below (Below.refl wc.heap.size wc).drew
            have hcc : ∀ W, Below wc.heap.size wc W → W.cell? ⟨g6, 0, none⟩ = some (.slice mo b1 mc) ∧ W.cell? ⟨g6, 1, none⟩ = some (.int .i64 (at1 : Nat)) ∧ W.cell? ⟨g6, 2, none⟩ = some (.int .i64 (s.2 : Nat)) := fun W hW => by
              obtain ⟨k0, k1, k2, _⟩ := (hst.below hW).cells
              exact ⟨k0, k1, k2⟩
            have HCC := hide hcc
            have hb0 := (Below.refl wc.heap.size wc).drew
            have hrd := hst6.rd
            have hren := rend_any (er := s.2) hst6.mb.rd hst6.le
            rw [show (bs.drop at1, s.2) = s from Prod.ext hst6.dr rfl] at hren
            have HREN := hide hren
            clear hcc hren
            go_wp2_with fail
            go_region_held3 (fun w' : World => w'.cell? ⟨g6, 0, none⟩ = some (.slice mo b1 mc) ∧ w'.cell? ⟨g6, 1, none⟩ = some (.int .i64 (at1 : Nat)) ∧ w'.cell? ⟨g6, 2, none⟩ = some (.int .i64 (s.2 : Nat))) (first | exact HCC.out _ hb0 | exact HCC.out _ hb9) (first
              | (go_at_call 24; refine (err_any hrd).mono ?_; rintro e w8 ⟨rfl, rfl⟩)
              | (go_at_call 25; refine (left_any hrd).mono ?_; rintro e w8 ⟨rfl, rfl⟩)
              | (go_at_call 27; refine (end_any hrd).mono ?_; rintro e w8 ⟨rfl, rfl⟩)
              | (go_at_call 32; refine HREN.out.mono ?_; rintro e w8 ⟨rfl, hb8⟩; have hb9 := below_trans hb0 hb8))
            all_goals
              go_wp2_with fail
              go_roundw
              case rel => exact ⟨i + 1, s, at1, by simp, by omega, by omega, hst.below hb9, below_trans hb hb9⟩
              case measure => simp [intOf]; omega
        · by_cases h3 : i < n
          · have i1 : (i : Int) < n := by omega
            have i2 : (30 : Int) ≤ i := by omega
            go_wp2_with fail
            refine (known_any _).mono ?_
            rintro e w9 ⟨rfl, hb9⟩
            go_wp2_with fail
            go_ret
            exact ⟨rfl, below_trans hb hb9⟩
          · have i1 : (n : Int) ≤ i := by omega
            go_wp2_with fail
            refine (known_any _).mono ?_
            rintro e w9 ⟨rfl, hb9⟩
            go_wp2_with fail
            go_ret
            exact ⟨rfl, below_trans hb hb9⟩

theorem reads_walk : LawWalk 10 Try.f10.params.toList := by
  intro W args h
  obtain ⟨v0, v1, rfl, h0, h1⟩ := argsOk2 h
  obtain ⟨bo, bn, bc, bs, rfl, hB, hb, _⟩ := one_by h0
  obtain ⟨ao, n, c, acts, rfl, hA, hG, hn⟩ := one_acts h1
  exact reads_any hB hb hA hG hn

set_option maxRecDepth 100000 in
theorem octetReads_lifted (os : Os) (started : os.Started) (H : Type) (enc : TypeId × Value → H) :
    ReturnsInHanded {} Try.checked os 10 .any (Rows.octetReadsSpec.pre6 enc Try.prog Try.f10 Rows.octetReadsRow.domain false) (Rows.octetReadsSpec.post enc Try.prog Try.f10 false true false false) :=
  law_lifted Try.func10 rfl rfl (by decide +kernel) (fun H ds h => by match ds, h with | [_, _], _ => rfl) (by kernel_rfl) os started H enc
    (ChangeSpec.witness6 (enc := enc) (C := Try.checked) false ⟨#[], #[.slice none 0 0, .slice none 0 0], []⟩ 8 (by kernel_rfl) (by kernel_rfl) (by kernel_rfl) (by kernel_rfl)) reads_walk

theorem octetReads_proved : Rows.OctetReadsSaid :=
  OpenClaim.holds_of_wide 10 Try.f10 rfl rfl rfl rfl rfl rfl rfl ⟨rfl, rfl, rfl, rfl, rfl⟩ rfl rfl rfl rfl rfl (by kernel_rfl) Try.func10 (by kernel_rfl)
    (of_decide_eq_true (by kernel_rfl)) (by unfold Func.isWrapper; first | (rw [if_pos (by decide +kernel)]; kernel_rfl) | (rw [if_neg (by decide +kernel)]; exact ⟨rfl, rfl⟩))
    (fun os started H enc _ => octetReads_lifted os started H enc)
#print axioms octetReads_proved
end Go.Proofs.Ytpnliafjiookpaa
