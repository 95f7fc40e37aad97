/- Lists of numbers and texts as arguments; what is written one behind the other, and read again, plainly. -/
import Derived.Test.YtpnliafjiookpaaOctF
import Derived.Test.YtpnliafjiookpaaRdP
import Derived.Test.YtpnliafjiookpaaRdF
namespace Go.Proofs.Ytpnliafjiookpaa
open Go.RowKit Go.ChangeShapes

def u64E : El Nat := ⟨23, 1, fun n => [.int .u64 (n : Int)]⟩
theorem u64E_ok : u64E.Ok := ⟨fun _ => rfl, by decide, fun x u hu => by simp [u64E] at hu; subst hu; rfl⟩
def i64E : El Int := ⟨2, 1, fun n => [.int .i64 n]⟩
theorem i64E_ok : i64E.Ok := ⟨fun _ => rfl, by decide, fun x u hu => by simp [i64E] at hu; subst hu; rfl⟩
def strE : El ByteArray := ⟨9, 1, fun s => [.string s]⟩
theorem strE_ok : strE.Ok := ⟨fun _ => rfl, by decide, fun x u hu => by simp [strE] at hu; subst hu; rfl⟩
instance : Inhabited ByteArray := ⟨⟨#[]⟩⟩

theorem one_us {W : World} {v : Value} (h : One W 61 v) : ∃ ao n c l, v = .slice ao n c ∧ RdS u64E W ao n c l ∧ (∀ x ∈ l, U64 x) ∧ n ≤ 140737488351232 := by
  obtain ⟨ao, n, c, l, e, hr, hg, _, hb⟩ := one_sl (E := u64E) (G := U64) Try.underlying61 (by kernel_rfl) (fun H enc fuel cs y hy _ _ => by
    obtain ⟨z, rfl, hw⟩ := tr_int Try.underlying23 hy
    obtain ⟨h0, h1⟩ := bounds_u64 hw
    refine ⟨z.toNat, ?_, by unfold U64; omega⟩
    simp [u64E]
    omega) (by decide) h
  have hby : Try.prog.bytesOf u64E.e = 8 := by kernel_rfl
  rw [hby] at hb
  unfold reachBytes at hb
  have := hr.cap
  exact ⟨ao, n, c, l, e, hr, hg, by omega⟩

theorem one_is {W : World} {v : Value} (h : One W 62 v) : ∃ ao n c l, v = .slice ao n c ∧ RdS i64E W ao n c l ∧ (∀ x ∈ l, I64 x) ∧ n ≤ 140737488351232 := by
  obtain ⟨ao, n, c, l, e, hr, hg, _, hb⟩ := one_sl (E := i64E) (G := I64) Try.underlying62 (by kernel_rfl) (fun H enc fuel cs y hy _ _ => by
    obtain ⟨z, rfl, hw⟩ := tr_int Try.underlying2 hy
    obtain ⟨h0, h1⟩ := bounds_i64 hw
    exact ⟨z, rfl, by unfold I64; omega⟩) (by decide) h
  have hby : Try.prog.bytesOf i64E.e = 8 := by kernel_rfl
  rw [hby] at hb
  unfold reachBytes at hb
  have := hr.cap
  exact ⟨ao, n, c, l, e, hr, hg, by omega⟩

theorem one_ss {W : World} {v : Value} (h : One W 63 v) : ∃ ao n c l, v = .slice ao n c ∧ RdS strE W ao n c l ∧ (∀ x ∈ l, x.size ≤ maxLen) ∧ n ≤ 140737488351232 := by
  obtain ⟨ao, n, c, l, e, hr, hg, _, hb⟩ := one_sl (E := strE) (G := fun s => s.size ≤ maxLen) Try.underlying63 (by kernel_rfl) (fun H enc fuel cs y hy _ _ => by
    obtain ⟨s, rfl, _, hs⟩ := DataW.trod_string Try.underlying9 hy
    exact ⟨s, rfl, hs⟩) (by decide) h
  have hby : Try.prog.bytesOf strE.e = 16 := by kernel_rfl
  rw [hby] at hb
  unfold reachBytes at hb
  have := hr.cap
  exact ⟨ao, n, c, l, e, hr, hg, by omega⟩

theorem RdS.one {α : Type} {E : El α} {w : World} {ao : Option Addr} {n c : Nat} {l : List α} (h : RdS E w ao n c l) (hE : E.Ok) (hs : E.size = 1) {i : Nat} {x : α} {u : Value} (hx : l[i]? = some x) (hu : E.enc x = [u]) : ∃ b o, ao = some ⟨b, o, none⟩ ∧ w.cell? ⟨b, o + i, none⟩ = some u := by
  obtain ⟨b, o, e, hc⟩ := h.cell hE hx (j := 0) (u := u) (by rw [hu]; rfl)
  exact ⟨b, o, e, by simpa [hs] using hc⟩

theorem RdS.next {α : Type} {E : El α} {w : World} {ao : Option Addr} {n c : Nat} {l : List α} (h : RdS E w ao n c l) {i : Nat} (hi : i < n) : ∃ x, l[i]? = some x ∧ l.drop i = x :: l.drop (i + 1) ∧ l.take (i + 1) = l.take i ++ [x] ∧ x ∈ l := by
  have hl : i < l.length := by rw [h.len]; exact hi
  exact ⟨l[i], List.getElem?_eq_getElem hl, List.drop_eq_getElem_cons hl, by rw [List.take_add_one, List.getElem?_eq_getElem hl]; rfl, List.getElem_mem hl⟩

/-- A text cut to 50 bytes; bytes with how many they are; a text so, twice. -/
def cutS (s : ByteArray) : List UInt8 := s.data.toList.take 50
def tx (l : List UInt8) : List UInt8 := num l.length ++ l
def twice (s : ByteArray) : List UInt8 := tx (cutS s) ++ tx (cutS s)

theorem cutS_len (s : ByteArray) : (cutS s).length ≤ 50 := by unfold cutS; rw [List.length_take]; omega

theorem numR_put {m most : Nat} (h : U64 m) (hm : m ≤ most) (rest : List UInt8) : numR most (num m ++ rest, 0) = ((rest, 0), m) := by
  unfold numR
  rw [if_neg (by simp)]
  simp only [parse_num h]
  rw [if_neg (by simp), if_neg (by omega), List.drop_left]

theorem bytesR_put {l : List UInt8} {most : Nat} (h : l.length ≤ most) (hm : most ≤ 1000) (rest : List UInt8) : bytesR (most : Int) (tx l ++ rest, 0) = ((rest, 0), l) := by
  have hU : U64 l.length := by unfold U64; omega
  unfold bytesR tx
  rw [if_neg (by simp), List.append_assoc]
  simp only [parse_num hU]
  rw [if_neg (by simp), if_neg (by simp; omega), if_neg (by simp)]
  rw [List.drop_left, List.take_left, ← List.append_assoc]
  rw [show (num l.length).length + l.length = (num l.length ++ l).length by simp, List.drop_left]

theorem cut_str (s : ByteArray) : s.extract 0 (if (50 : Int) < (s.size : Int) then (50 : Int) else (s.size : Int)).toNat = strOf (cutS s) := by
  have hsz : s.size = s.data.size := rfl
  have hk : ∀ k : Nat, s.data.toList.take k = cutS s → s.extract 0 k = strOf (cutS s) := fun k hk => by
    rw [← hk]
    unfold strOf
    apply ByteArray.ext
    rw [ByteArray.data_extract]
    apply Array.ext'
    simp [List.extract_eq_take_drop]
  apply hk
  unfold cutS
  split
  · rfl
  · next h =>
    rw [Int.toNat_natCast, List.take_of_length_le (by rw [Array.length_toList]; omega), List.take_of_length_le (by rw [Array.length_toList]; omega)]

theorem bytesR_50 {l : List UInt8} (h : l.length ≤ 50) (rest : List UInt8) : bytesR 50 (tx l ++ rest, 0) = ((rest, 0), l) := by
  have := bytesR_put (most := 50) h (by omega) rest
  simpa using this
end Go.Proofs.Ytpnliafjiookpaa
