/- What the functions of the layer octet that put bytes do, each by its walk: what is handed back lies in new memory. -/
import Derived.Test.YtpnliafjiookpaaRows
import Derived.Test.YtpnliafjiookpaaBase
import Derived.Test.YtpnliafjiookpaaOctA
namespace Go.Proofs.Ytpnliafjiookpaa
open Go.RowKit

/-- Bytes as a slice's elements. -/
def byteE : El UInt8 := ⟨5, 1, fun c => [.int .u8 (c.toNat : Int)]⟩

theorem byteE_ok : byteE.Ok := ⟨fun _ => rfl, by decide, fun x u hu => by simp [byteE] at hu; subst hu; rfl⟩

theorem sT8 : SliceT Try.prog 22 byteE.e (.int .u8 0) byteE.size 1 := ⟨Try.underlying22, by kernel_rfl, rfl, by decide⟩

abbrev RdB := RdS byteE
abbrev OwnB := OwnS byteE

theorem RdS.byte {w : World} {ao : Option Addr} {n c : Nat} {l : List UInt8} (h : RdB w ao n c l) (k : Nat) (hk : k < n) :
    ∃ b o, ao = some ⟨b, o, none⟩ ∧ w.cell? ⟨b, o + k, none⟩ = some (.int .u8 (bt l k : Nat)) := by
  obtain ⟨b, o, e, hc⟩ := h.cell byteE_ok (bt_some (l := l) (k := k) (by rw [h.len]; exact hk)) (j := 0) (u := .int .u8 (bt l k : Nat)) (by
    have := bt_lt l k
    simp [byteE]
    omega)
  exact ⟨b, o, e, by simpa [byteE] using hc⟩

@[go_sem] theorem eqnil8 (w : World) (a : Option Addr) (n c : Nat) : (binOp .eql 22 (.slice a n c) (.slice none 0 0)).run Try.prog w = .ok (.bool a.isNone) w :=
  Lib.run_eql_slice_nil w 22 5 a n c 0 0 Try.underlying22

/-- The bytes of a text, as a new slice: how many it may take, the world behind it. -/
def strCap (w : World) (s : ByteArray) : Nat := grownCap w s.size 0 5
def strW (w : World) (s : ByteArray) : World :=
  w.drew.alloc (.cells (bytesRow s (strCap w s)) 5 ((bytesRow s (strCap w s)).size, (bytesRow s (strCap w s)).size + 1))

@[go_sem] theorem conv_string (w : World) (s : ByteArray) : (convert 9 22 (.string s)).run Try.prog w = .ok (.slice (some ⟨w.heap.size, 0, none⟩) s.size (strCap w s)) (strW w s) :=
  run_bytes_of_string w 9 22 5 s Try.underlying9 Try.underlying22 Try.underlying5

theorem strW_below (w : World) (s : ByteArray) : Below w.heap.size w (strW w s) := (Below.refl _ _).drew.alloc (Nat.le_refl _) _

theorem strW_size (w : World) (s : ByteArray) : (strW w s).heap.size = w.heap.size + 1 := by simp [strW]

theorem strW_rd (w : World) (s : ByteArray) : RdB (strW w s) (some ⟨w.heap.size, 0, none⟩) s.size (strCap w s) s.data.toList := by
  refine ⟨Rd.mk_some fun i u hu => ?_, by simp, ?_, fun e => by cases e⟩
  · have hu' : s.data.toList[i]?.map (fun c => Value.int .u8 (c.toNat : Int)) = some u := by
      rw [← hu, ← List.getElem?_map]
      congr 1
      induction s.data.toList with
      | nil => rfl
      | cons x l ih => simp [byteE, List.flatMap_cons, ih]
    obtain ⟨c, hc, rfl⟩ := Option.map_eq_some_iff.1 hu'
    have hlt : i < s.data.size := by simpa using (List.getElem?_eq_some_iff.1 hc).1
    have hx : s.data[i] = c := by simpa using (List.getElem?_eq_some_iff.1 hc).2
    have hb := bytesRow_at s (strCap w s) i hlt
    rw [hx] at hb
    unfold World.cell? strW
    rw [show (w.drew.alloc (.cells (bytesRow s (strCap w s)) 5 ((bytesRow s (strCap w s)).size, (bytesRow s (strCap w s)).size + 1))).heap[w.heap.size]? = _ from heap_alloc_new w.drew _]
    simpa using hb
  · unfold strCap
    exact grownCap_ge _ _ _ _

/-- The text of bytes. -/
def strOf (l : List UInt8) : ByteArray := ⟨l.toArray⟩

theorem strOf_size (l : List UInt8) : (strOf l).size = l.length := by simp [strOf, ByteArray.size]
theorem strOf_list (l : List UInt8) : (strOf l).data.toList = l := by simp [strOf]
theorem strOf_data (s : ByteArray) : strOf s.data.toList = s := by simp [strOf]

theorem conv_bytes {w : World} {ao : Option Addr} {n c : Nat} {l : List UInt8} (h : RdB w ao n c l) : (convert 22 9 (.slice ao n c)).run Try.prog w = .ok (.string (strOf l)) w := by
  cases ao with
  | none =>
    obtain ⟨rfl, rfl⟩ := h.nil rfl
    have : l = [] := List.eq_nil_of_length_eq_zero h.len
    subst this
    exact run_convert_bytes_nil w 22 5 Try.underlying22 Try.underlying5 0 0 9 Try.underlying9
  | some ad =>
    have key : ∀ b o, ad = ⟨b, o, none⟩ → (convert 22 9 (.slice (some ad) n c)).run Try.prog w = .ok (.string (strOf l)) w := by
      intro b o e
      subst e
      have hr := run_convert_bytes_arg (P := Try.prog) w 22 5 Try.underlying22 Try.underlying5 b o n c (l.map fun x => (x.toNat : Int)) (by simpa using h.len) (fun i hi => by
        obtain ⟨b', o', e, hc⟩ := h.byte i hi
        cases e
        rw [hc]
        have hl := h.len
        simp [bt, List.getD_eq_getElem?_getD, List.getElem?_map, List.getElem?_eq_getElem (show i < l.length by omega)]) 9 Try.underlying9
      rw [hr]
      congr 2
      simp only [strOfNums, strOf, List.map_map]
      congr 2
      exact (List.map_congr_left fun x _ => by simp).trans (List.map_id _)
    rcases Nat.eq_zero_or_pos n with h0 | h0
    · subst h0
      have : l = [] := List.eq_nil_of_length_eq_zero h.len
      subst this
      have hl : (loadCells ad 0).run Try.prog w = .ok #[] w := by
        have := run_loadCells_list (P := Try.prog) w ad [] (fun j v hj => by simp at hj)
        simpa using this
      rw [run_convert_bytes_string w 22 9 5 _ 0 c Try.underlying22 Try.underlying5 Try.underlying9, run_bytesToString w ad 0 c [] hl]
      rfl
    · obtain ⟨b, o, e⟩ := h.addrOf byteE_ok h0
      exact key b o (by simpa using e)

theorem or128 (m : Nat) : bits .or .u8 ((m : Int) % 256) 128 = ((septet m).toNat : Int) := by
  have h : ∀ x : Nat, x < 256 → bits .or .u8 (x : Int) 128 = ((x % 128 + 128 : Nat) : Int) := by decide +kernel
  have e : ((m : Int) % 256) = ((m % 256 : Nat) : Int) := by omega
  rw [e, h _ (by omega), septet_toNat]
  omega

set_option maxRecDepth 100000 in
set_option maxHeartbeats 400000 in
theorem clone8_any {ao : Option Addr} {n c : Nat} {xs : List UInt8} {w : World} (hR : RdB w ao n c xs) (hl : n ≤ 140737488355328) :
    Calls Try.prog 33 #[.slice ao n c] w fun e w' => ∃ ao' c', e = .returned (.slice ao' n c') ∧ OwnB w' w.heap.size ao' n c' xs ∧ Below w.heap.size w w' := by
  cases ao with
  | none =>
    obtain ⟨rfl, rfl⟩ := hR.nil rfl
    have : xs = [] := List.eq_nil_of_length_eq_zero hR.len
    subst this
    go_enter Try.func33, Try.ntmps33
    go_wp2
    go_ret
    exact ⟨none, 0, rfl, OwnS.nilRow _ _, Below.refl _ _⟩
  | some ad =>
    go_enter Try.func33, Try.ntmps33
    go_wp2_with (at_builtin; refine wpList_app byteE_ok sT8 rfl (.tmp 5) (.tmp 6) rfl rfl (OwnS.emptyRow w (Nat.le_refl _)) rfl (hR.below ((Below.refl _ _).alloc (Nat.le_refl _) _)) ?_ ?_ ?_ ?_)
    · omega
    · unfold maxLen; omega
    · simp
    · intro ao' cap' w' ho hg _
      go_wp2
      go_ret
      exact ⟨ao', cap', rfl, by simpa using ho, ((Below.refl _ _).alloc (Nat.le_refl _) _).grown hg (by simp) (fun k hk => by simp [Value.ownBlock] at hk; omega)⟩

set_option maxRecDepth 100000 in
set_option maxHeartbeats 400000 in
theorem putNum_any {ao : Option Addr} {k c : Nat} {xs : List UInt8} {n : Nat} {w : World} (hR : RdB w ao k c xs) (hl : k ≤ 140737488355000) (hn : U64 n) :
    Calls Try.prog 12 #[.slice ao k c, .int .u64 n] w fun e w' => ∃ ao' k' c', e = .returned (.slice ao' k' c') ∧ OwnB w' w.heap.size ao' k' c' (xs ++ num n) ∧ Below w.heap.size w w' ∧ k' ≤ k + 10 ∧ k < k' := by
  go_enter Try.func12, Try.ntmps12
  go_wp2_with (go_at_call 33; refine (clone8_any hR (by omega)).mono ?_; rintro e w1 ⟨ao1, c1, rfl, ho, hb⟩)
  go_loopw [1, 5] (fun i v wr => ∃ (f m : Nat) (pre : List UInt8) (a1 : Option Addr) (k1 c1 : Nat), PutSt n f m pre ∧ i = .int .u64 m ∧ v = .slice a1 k1 c1 ∧
      OwnB wr w.heap.size a1 k1 c1 (xs ++ pre) ∧ Below w.heap.size w wr) (fun i _ _ => (intOf i).toNat)
  case atStart => exact ⟨10, n, [], ao1, _, c1, PutSt.start hn, rfl, rfl, by simpa using ho, hb⟩
  case round =>
    obtain ⟨f, m, pre, a1, k1, c1, hst, rfl, rfl, hown, hbl⟩ := hrel
    have hpl := hst.len
    have hkl : k1 = k + pre.length := by have := hown.len; have := hR.len; simp at *; omega
    have h1 : k1 ≤ k + 9 := by omega
    have h2 : k ≤ k1 := by omega
    clear hkl
    have hm0 := hst.2.2.2.2.2
    have hsz := hbl.size
    by_cases hlt : m < 128
    · go_wp2_with (at_builtin; refine wpList_app1 byteE_ok sT8 rfl (.tmp 18) (.tmp 21) rfl rfl hown (UInt8.ofNat m) rfl ?_ ?_ ?_ ?_ ?_)
      · simp [byteE]; omega
      · omega
      · unfold maxLen; omega
      · omega
      · intro ao' c' w' ho' hg _
        go_wp2
        go_ret
        exact ⟨ao', _, c', rfl, by rw [hst.last hlt]; simpa using ho', hown.frame hbl hg, by omega, by omega⟩
    · go_wp2_with (at_builtin; refine wpList_app1 byteE_ok sT8 rfl (.tmp 10) (.tmp 14) rfl rfl hown (septet m) rfl ?_ ?_ ?_ ?_ ?_)
      · rw [or128]; rfl
      · omega
      · unfold maxLen; omega
      · omega
      · intro ao' c' w' ho' hg _
        go_wp2
        go_roundw
        case rel => exact ⟨f - 1, m / 128, _, ao', _, c', hst.more hlt, by go_num, rfl, by simpa using ho', hown.frame hbl hg⟩
        case measure => simp [intOf]; omega
end Go.Proofs.Ytpnliafjiookpaa
