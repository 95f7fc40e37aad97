/- The reader of the layer octet: Int, Bytes, Text. -/
import Derived.Test.YtpnliafjiookpaaRdD
namespace Go.Proofs.Ytpnliafjiookpaa
open Go.RowKit

theorem xor_i64_ones {a : Nat} (ha : a < 9223372036854775808) : bits .xor .i64 (a : Int) (-1) = -(a : Int) - 1 := by
  have h1 : (BitVec.ofInt 64 (a : Int)).toNat = a := by
    rw [BitVec.ofInt_natCast, BitVec.toNat_ofNat]; exact Nat.mod_eq_of_lt (by omega)
  have h2 : (BitVec.ofInt 64 (-1)).toNat = 18446744073709551615 := by decide
  show IntKind.i64.wrap ((BitVec.ofInt 64 (a : Int) ^^^ BitVec.ofInt 64 (-1)).toNat : Int) = _
  rw [BitVec.toNat_xor, h1, h2, xor_ones a (by omega), IntKind.wrap_i64]
  omega

theorem xor_i64_zero {a : Nat} (ha : a < 9223372036854775808) : bits .xor .i64 (a : Int) 0 = (a : Int) := by
  have h1 : (BitVec.ofInt 64 (a : Int)).toNat = a := by
    rw [BitVec.ofInt_natCast, BitVec.toNat_ofNat]; exact Nat.mod_eq_of_lt (by omega)
  have h2 : (BitVec.ofInt 64 0).toNat = 0 := by decide
  show IntKind.i64.wrap ((BitVec.ofInt 64 (a : Int) ^^^ BitVec.ofInt 64 0).toNat : Int) = _
  rw [BitVec.toNat_xor, h1, h2, Nat.xor_zero, IntKind.wrap_i64]
  omega

theorem and_one_u64 {n : Nat} (h : n < 18446744073709551616) : bits .and .u64 (n : Int) 1 = ((n % 2 : Nat) : Int) := by
  have := bits_and_u64_nat n 1 h (by omega)
  rw [show ((1 : Nat) : Int) = 1 from rfl] at this
  rw [this, Nat.and_one_is_mod]

set_option maxRecDepth 100000 in
set_option maxHeartbeats 400000 in
theorem back_any {n : Nat} {w : World} (hn : U64 n) :
    Calls Try.prog 35 #[.int .u64 n] w fun e w' => e = .returned (.int .i64 (unf n)) ∧ w = w' := by
  have hn1 : n < 18446744073709551616 := hn
  have ha := and_one_u64 hn1
  have hn2 : (n : Int) ≤ 18446744073709551615 := by omega
  have H1 := hide hn1
  clear hn1
  have hm : n % 2 = 0 ∨ n % 2 = 1 := by omega
  rcases hm with hm | hm
  · rw [hm] at ha
    have HM := hide hm
    clear hm
    have hx : bits .xor .i64 ((n : Int) / 2) 0 = ((n / 2 : Nat) : Int) := xor_i64_zero (a := n / 2) (by have := H1.out; omega)
    go_enter Try.func35, Try.ntmps35
    go_wp2_with fail
    go_ret
    exact ⟨ret_int (by unfold unf; rw [if_pos HM.out]; first | rfl | exact hx | simp), rfl⟩
  · rw [hm] at ha
    have HM := hide hm
    clear hm
    have hx : bits .xor .i64 ((n : Int) / 2) (-1) = -((n / 2 : Nat) : Int) - 1 := xor_i64_ones (a := n / 2) (by have := H1.out; omega)
    go_enter Try.func35, Try.ntmps35
    go_wp2_with fail
    go_ret
    exact ⟨ret_int (by unfold unf; rw [if_neg (by rw [HM.out]; decide)]; first | rfl | exact hx | simp), rfl⟩

set_option maxRecDepth 100000 in
set_option maxHeartbeats 400000 in
theorem int_any {w : World} {base g : Nat} {s : List UInt8 × Nat} (h : Rdr w base g s) :
    Calls Try.prog 22 #[.pointer (some ⟨g, 0, none⟩)] w fun e w' => e = .returned (.int .i64 (unf (numR 18446744073709551615 s).2)) ∧ Rdr w' base g (numR 18446744073709551615 s).1 ∧ w.grownBy w' (some g) := by
  have hU : U64 (numR 18446744073709551615 s).2 := by
    have := parse_ok s.1
    unfold U64 numR
    split
    · simp
    · split
      · simp
      · split
        · simp
        · rcases this with h | h
          · simp [h.2.1]
          · exact h.2.1
  go_enter Try.func22, Try.ntmps22
  go_wp2_with fail
  refine (num_any (most := 18446744073709551615) h (by unfold U64; omega)).mono ?_
  rintro e w1 ⟨rfl, h1, hg⟩
  go_wp2_with fail
  refine (back_any hU).mono ?_
  rintro e w2 ⟨rfl, rfl⟩
  go_wp2_with fail
  go_ret
  exact ⟨rfl, h1, hg⟩

set_option maxRecDepth 100000 in
set_option maxHeartbeats 1000000 in
theorem bytes_any {w : World} {base g : Nat} {s : List UInt8 × Nat} {most : Int} (h : Rdr w base g s) (hm : I64 most) :
    Calls Try.prog 26 #[.pointer (some ⟨g, 0, none⟩), .int .i64 most] w fun e w' => ∃ ao n c, e = .returned (.slice ao n c) ∧ OwnB w' w.heap.size ao n c (bytesR most s).2 ∧ Rdr w' base g (bytesR most s).1 ∧ w.grownBy w' (some g) := by
  have hm1 : -9223372036854775808 ≤ most := hm.1
  have hm2 : most ≤ 9223372036854775807 := by have := hm.2; omega
  obtain ⟨ao, n, c, hh, hR, hn, hb⟩ := h.ex
  have c0 : w.cell? ⟨g, 0, none⟩ = some (.slice ao n c) := by unfold World.cell?; rw [hh]; rfl
  have c1 : w.cell? ⟨g, 1, none⟩ = some (.int .i64 (s.2 : Nat)) := by unfold World.cell?; rw [hh]; rfl
  have f0 : w.frozen? ⟨g, 0, none⟩ = false := by unfold World.frozen?; rw [hh]; rfl
  have f1 : w.frozen? ⟨g, 1, none⟩ = false := by unfold World.frozen?; rw [hh]; rfl
  have glt := h.lt
  have d0 := cell_past2 c0
  have d1 := cell_past2 c1
  have e0 := free_past2 (a := ⟨g, 0, none⟩) glt f0
  have e1 := free_past2 (a := ⟨g, 1, none⟩) glt f1
  clear c0 c1 f0 f1
  by_cases h0 : s.2 = 0
  · have h1 : ((s.2 : Int) != 0) = false := by simp [h0]
    have H0 := hide h0
    clear h0
    have hp := parse_ok s.1
    have hl := hR.len
    go_enter Try.func26, Try.ntmps26
    go_wp2_with fail
    go_in
    go_wp2_with fail
    go_in
    go_wp2_with fail
    refine (number_any (hR.below (below_trans (below_alloc w _) (below_alloc _ _))) hn).mono ?_
    rintro e w1 ⟨rfl, rfl⟩
    rcases hp with ⟨p1, p2, p3, p4⟩ | ⟨p1, p2, p3, p4, p5⟩
    · have q1 : (((parse s.1).2.2 : Int) == 0) = false := by simpa using p1
      have q2 : (((parse s.1).2.2 : Int) != 0) = true := by simpa using p1
      have HP := hide p1
      clear p1 p2 p3
      go_wp2_with fail
      go_ret
      have e1 : bytesR most s = ((s.1, (parse s.1).2.2), []) := by unfold bytesR; rw [if_neg (by simp [H0.out]), if_pos HP.out]
      rw [e1]
      exact ⟨none, 0, 0, rfl, OwnS.nilRow _ _, (h.fail _).below (below_trans (below_alloc _ _) (below_alloc _ _)), grown_trans (grown_setCell _ _ _) (grown_of_below (below_trans (below_alloc _ _) (below_alloc _ _)) _)⟩
    · have hm3 : ((parse s.1).1 : Int) ≤ 18446744073709551615 := by omega
      have q1 : (((parse s.1).2.2 : Int) == 0) = true := by simpa using p1
      have q2 : (((parse s.1).2.2 : Int) != 0) = false := by simpa using p1
      have p4' : (parse s.1).2.1 ≤ n := by omega
      have HP := hide (And.intro p1 (And.intro p4' hl))
      clear p1 p2 p4 hl
      have key := bytesR_cases (most := most) H0.out HP.out.1
      rw [hR.len] at key
      have hK : (parse s.1).2.1 ≤ n := p4'
      generalize (parse s.1).2.1 = K at *
      generalize (parse s.1).1 = N at *
      have hd : ∀ (o o' : Obj), Below w.heap.size w ((w.alloc o).alloc o') := fun o o' => below_trans (below_alloc _ _) (below_alloc _ _)
      have HD := hide hd
      clear hd p4' HP
      have hM : most.toNat ≤ 9223372036854775807 := by omega
      have hmx : (0 ≤ most ∧ most = (most.toNat : Int)) ∨ (most < 0 ∧ (most.toNat : Int) = 0) := by omega
      have HMX := hide hmx
      clear hmx
      generalize hMn : most.toNat = M at *
      have HMn := hide hMn
      clear hMn
      have hsplit : (∃ q : Nat, most = q ∧ q = M) ∨ (most < 0 ∧ M = 0) := by
        rcases HMX.out with ⟨h, e⟩ | ⟨h, e⟩
        · exact .inl ⟨M, e, rfl⟩
        · exact .inr ⟨h, by omega⟩
      by_cases hq : M < N
      · have HK := hide (key.1 hq)
        clear key
        rcases hsplit with ⟨q, rfl, rfl⟩ | ⟨hneg, rfl⟩
        all_goals
          go_wp2_with fail
          go_ret
          rw [HK.out]
          exact ⟨none, 0, 0, rfl, OwnS.nilRow _ _, (h.fail _).below (below_trans (below_alloc _ _) (below_alloc _ _)), grown_trans (grown_setCell _ _ _) (grown_of_below (below_trans (below_alloc _ _) (below_alloc _ _)) _)⟩
      · by_cases hs : n - K < N
        · have HK := hide (key.2.1 hq hs)
          clear key
          have hs' : (n : Int) - K < N := by omega
          rcases hsplit with ⟨q, rfl, rfl⟩ | ⟨hneg, rfl⟩
          · go_wp2_with fail
            go_ret
            rw [HK.out]
            exact ⟨none, 0, 0, rfl, OwnS.nilRow _ _, (h.fail _).below (below_trans (below_alloc _ _) (below_alloc _ _)), grown_trans (grown_setCell _ _ _) (grown_of_below (below_trans (below_alloc _ _) (below_alloc _ _)) _)⟩
          · exfalso
            omega
        · have HK := hide (key.2.2 hq hs)
          clear key
          have hs' : (N : Int) ≤ n - K := by omega
          have hnc := hR.cap
          have hKN : (K : Int) + N ≤ c := by omega
          have hcut := (hR.dropO byteE_ok hK).take byteE_ok (k := N) (by omega)
          have e1 : K * byteE.size = K := Nat.mul_one K
          rw [e1] at hcut
          have ht : ∀ {w' : World}, Rdr w' base g s → w'.heap[g]? = some (.cells #[.slice ao n c, .int .i64 (s.2 : Nat)] 67 (0, 0)) → _ := fun h' hh' => h'.took hh' (k := K + N) (by omega)
          have HC := hide hcut
          clear hcut
          have key2 : ∀ (box : Obj), Calls Try.prog 33 #[.slice (if c = K then ao else ao.map fun x => x.add K) N (c - K)] ((w.alloc box).alloc (.cells #[.slice none 0 0] 22)) fun e w' => ∃ a' c', e = .returned (.slice a' N c') ∧ OwnB w' w.heap.size a' N c' ((s.1.drop K).take N) ∧ Below w.heap.size w w' ∧
              w'.heap[w.heap.size + 1]? = some (.cells #[.slice none 0 0] 22 (0, 0)) := by
            intro box
            refine (clone8_any (HC.out.below (HD.out _ _)) (by omega)).mono ?_
            rintro e w3 ⟨a3, c3, rfl, ho3, hb3⟩
            refine ⟨a3, c3, rfl, ho3.mono (HD.out _ _).size, below_trans (HD.out _ _) hb3, ?_⟩
            rw [hb3.block _ (by simp)]
            have : ((w.alloc box).alloc (.cells #[.slice none 0 0] 22)).heap[(w.alloc box).heap.size]? = _ := heap_alloc_new _ _
            simpa using this
          have after : ∀ {w3 : World} {a3 : Option Addr} {c3 : Nat}, OwnB w3 w.heap.size a3 N c3 ((s.1.drop K).take N) → Below w.heap.size w w3 → w3.heap[w.heap.size + 1]? = some (.cells #[.slice none 0 0] 22 (0, 0)) →
              OwnB ((w3.setCell ⟨w.heap.size + 1, 0, none⟩ (.slice a3 N c3)).setCell ⟨g, 0, none⟩ (.slice (if c = K + N then ao else ao.map fun x => x.add (K + N)) (n - (K + N)) (c - (K + N)))) w.heap.size a3 N c3 ((s.1.drop K).take N) ∧
              Rdr ((w3.setCell ⟨w.heap.size + 1, 0, none⟩ (.slice a3 N c3)).setCell ⟨g, 0, none⟩ (.slice (if c = K + N then ao else ao.map fun x => x.add (K + N)) (n - (K + N)) (c - (K + N)))) base g (s.1.drop (K + N), 0) ∧
              w.grownBy ((w3.setCell ⟨w.heap.size + 1, 0, none⟩ (.slice a3 N c3)).setCell ⟨g, 0, none⟩ (.slice (if c = K + N then ao else ao.map fun x => x.add (K + N)) (n - (K + N)) (c - (K + N)))) (some g) := by
            intro w3 a3 c3 ho3 hb3 hbox
            have hbw : Below w.heap.size w (w3.setCell ⟨w.heap.size + 1, 0, none⟩ (.slice a3 N c3)) := hb3.setCell (by simp) _
            have hh1 : (w3.setCell ⟨w.heap.size + 1, 0, none⟩ (.slice a3 N c3)).heap[g]? = some (.cells #[.slice ao n c, .int .i64 (s.2 : Nat)] 67 (0, 0)) := by rw [hbw.block g glt]; exact hh
            have hr := ht (h.below hbw) hh1
            rw [H0.out] at hr
            refine ⟨?_, hr, grown_trans (grown_of_below hbw _) (grown_setCell _ _ _)⟩
            refine (ho3.grown (grown_setCell w3 ⟨w.heap.size + 1, 0, none⟩ _) ?_).grown (grown_setCell _ ⟨g, 0, none⟩ _) ?_
            · cases a3 with
              | none => exact .inl rfl
              | some ad =>
                obtain ⟨g3, rfl, h3, _⟩ := ho3.addr ad rfl
                refine .inr fun e => ?_
                simp [Value.ownBlock] at e
                subst e
                rcases ho3.own.2 with ⟨hv, _⟩ | ⟨g', cap', cur, hv, _, hg', _⟩
                · cases hv
                · cases hv
                  rw [hbox] at hg'
                  simp [byteE] at hg'
            · cases a3 with
              | none => exact .inl rfl
              | some ad =>
                obtain ⟨g3, rfl, h3, _⟩ := ho3.addr ad rfl
                exact .inr (by simp [Value.ownBlock]; omega)
          have HA := hide @after
          clear after
          have HT := hide @ht
          clear ht
          have walk : ∀ (w3 : World) (a3 : Option Addr) (c3 : Nat), OwnB w3 w.heap.size a3 N c3 ((s.1.drop K).take N) → True := fun _ _ _ _ => trivial
          clear walk
          have cs : (c = K ∧ N = 0) ∨ (¬ c = K ∧ c = K + N) ∨ (¬ c = K ∧ ¬ c = K + N) := by omega
          rcases cs with ⟨z1, z2⟩ | ⟨z1, z2⟩ | ⟨z1, z2⟩
          · obtain rfl : n = c := by omega
            subst z2
            have z3 : K = n := z1.symm
            subst z3
            simp only [if_pos, Nat.sub_self] at key2
            rcases hsplit with ⟨q, rfl, rfl⟩ | ⟨hneg, rfl⟩
            all_goals
              go_wp2_with fail
              refine (key2 _).mono ?_
              rintro e w3 ⟨a3, c3, rfl, ho3, hb3, hbox⟩
              have x0 : w3.cell? ⟨g, 0, none⟩ = some (.slice ao K K) := by unfold World.cell?; rw [hb3.block g glt, hh]; rfl
              have y0 : w3.frozen? ⟨g, 0, none⟩ = false := by unfold World.frozen?; rw [hb3.block g glt, hh]; rfl
              have x1 := cell_of_one hbox
              have y1 := free_of_one hbox
              have hA := HA.out ho3 hb3 hbox
              simp only [Nat.add_zero, if_pos, Nat.sub_self] at hA
              have HAA := hide hA
              clear hA
              go_wp2_with fail
              go_ret
              rw [HK.out]
              exact ⟨a3, 0, c3, rfl, HAA.out.1, HAA.out.2.1, HAA.out.2.2⟩
          · obtain rfl : n = c := by omega
            simp only [if_neg z1] at key2
            have z3 : K + N = n := z2.symm
            have z4 : (K : Int) + N = n := by omega
            have z5 : n - K = N := by omega
            simp only [z5] at key2
            have Z2 := hide z2
            clear z2
            rcases hsplit with ⟨q, rfl, rfl⟩ | ⟨hneg, rfl⟩
            · go_wp2_with fail
              refine (key2 _).mono ?_
              rintro e w3 ⟨a3, c3, rfl, ho3, hb3, hbox⟩
              have x0 : w3.cell? ⟨g, 0, none⟩ = some (.slice ao n n) := by unfold World.cell?; rw [hb3.block g glt, hh]; rfl
              have y0 : w3.frozen? ⟨g, 0, none⟩ = false := by unfold World.frozen?; rw [hb3.block g glt, hh]; rfl
              have x1 := cell_of_one hbox
              have y1 := free_of_one hbox
              have hA := HA.out ho3 hb3 hbox
              rw [if_pos Z2.out] at hA
              rw [z3, Nat.sub_self] at hA
              have HAA := hide hA
              clear hA
              go_wp2_with fail
              go_ret
              rw [HK.out]
              exact ⟨a3, _, c3, rfl, HAA.out.1, by rw [← Z2.out] ; exact HAA.out.2.1, HAA.out.2.2⟩
            · exfalso
              have := Z2.out
              omega
          · simp only [if_neg z1] at key2
            rcases hsplit with ⟨q, rfl, rfl⟩ | ⟨hneg, rfl⟩
            all_goals
              go_wp2_with fail
              refine (key2 _).mono ?_
              rintro e w3 ⟨a3, c3, rfl, ho3, hb3, hbox⟩
              have x0 : w3.cell? ⟨g, 0, none⟩ = some (.slice ao n c) := by unfold World.cell?; rw [hb3.block g glt, hh]; rfl
              have y0 : w3.frozen? ⟨g, 0, none⟩ = false := by unfold World.frozen?; rw [hb3.block g glt, hh]; rfl
              have x1 := cell_of_one hbox
              have y1 := free_of_one hbox
              have hA := HA.out ho3 hb3 hbox
              rw [if_neg z2] at hA
              have HAA := hide hA
              clear hA
              go_wp2_with fail
              go_ret
              rw [HK.out]
              exact ⟨a3, _, c3, rfl, HAA.out.1, HAA.out.2.1, HAA.out.2.2⟩
  · have h1 : ((s.2 : Int) != 0) = true := by simp [h0]
    have H0 := hide h0
    clear h0
    go_enter Try.func26, Try.ntmps26
    go_wp2_with fail
    go_in
    go_wp2_with fail
    go_ret
    have e1 : bytesR most s = (s, []) := by unfold bytesR; rw [if_pos H0.out]
    rw [e1]
    exact ⟨none, 0, 0, rfl, OwnS.nilRow _ _, h.below (below_trans (below_alloc w _) (below_alloc _ _)), grown_of_below (below_trans (below_alloc w _) (below_alloc _ _)) _⟩

end Go.Proofs.Ytpnliafjiookpaa
