/- The chapter's example is so: 'known' answers true, and leaves all that was there as it was. -/
import Derived.Test.YtpnliafjiookpaaOctC
import Derived.Test.YtpnliafjiookpaaMem
namespace Go.Proofs.Ytpnliafjiookpaa
open Go.RowKit

/-- A slice that a statement writes out can be read. -/
theorem lit_rd {w : World} {cs : Array Value} {l : List UInt8} {fr : Nat × Nat} (h : cs.toList = l.flatMap byteE.enc) :
    RdB (w.alloc (.cells cs 5 fr)) (some ⟨w.heap.size, 0, none⟩) l.length l.length l := by
  refine ⟨Rd.mk_some fun i u hu => ?_, rfl, Nat.le_refl _, fun e => by cases e⟩
  unfold World.cell?
  rw [heap_alloc_new]
  rw [← h] at hu
  simpa using hu


theorem nil_rd (w : World) : RdB w none 0 0 [] := ⟨Rd.nil _ _, rfl, Nat.le_refl _, fun _ => ⟨rfl, rfl⟩⟩

set_option maxRecDepth 100000 in
set_option maxHeartbeats 400000 in
theorem known_any (w : World) : Calls Try.prog 16 #[] w fun e w' => e = .returned (.bool true) ∧ Below w.heap.size w w' := by
  go_enter Try.func16, Try.ntmps16
  go_wp2_with fail
  refine (putNum_any (n := 300) (nil_rd w) (by omega) (u64_of (by omega))).mono ?_
  rintro e w1 ⟨a1, k1, c1, rfl, ho1, hb1, h1, h2⟩
  go_wp2_with fail
  refine (same_yes (ho1.rd.below (below_alloc w1 _)) (lit_rd (l := [172, 2]) rfl) (by decide) (by omega)).mono ?_
  rintro e w2 ⟨rfl, hb2⟩
  have hb2 := below_trans (below_trans hb1 (below_alloc w1 _)) hb2
  go_wp2_with fail
  refine (putInt_any (n := -3) (lit_rd (l := [7]) rfl) (by decide) (by unfold I64; omega)).mono ?_
  rintro e w3 ⟨a3, k3, c3, rfl, ho3, hb3, h3, h4⟩
  have hb3 := below_trans (below_trans hb2 (below_alloc w2 _)) hb3
  go_wp2_with fail
  refine (same_yes (ho3.rd.below (below_alloc w3 _)) (lit_rd (l := [7, 5]) rfl) (by decide) (by simp at h3; omega)).mono ?_
  rintro e w4 ⟨rfl, hb4⟩
  have hb4 := below_trans (below_trans hb3 (below_alloc w3 _)) hb4
  go_wp2_with fail
  refine (putText_any (nil_rd w4) (by decide)).mono ?_
  rintro e w5 ⟨a5, k5, c5, rfl, ho5, hb5, h5, h6⟩
  have hb5 := below_trans hb4 hb5
  go_wp2_with fail
  refine (same_yes (ho5.rd.below (below_alloc w5 _)) (lit_rd (l := [2, 97, 98]) rfl) (by decide) (by have h7 : ByteArray.size { data := #[97, 98] } = 2 := rfl; omega)).mono ?_
  rintro e w6 ⟨rfl, hb6⟩
  have hb6 := below_trans (below_trans hb5 (below_alloc w5 _)) hb6
  go_wp2_with fail
  go_ret
  exact ⟨rfl, hb6⟩
end Go.Proofs.Ytpnliafjiookpaa
