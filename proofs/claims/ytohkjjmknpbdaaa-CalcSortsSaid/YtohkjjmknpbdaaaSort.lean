/- calc.Sort: a copy in order. -/
import Derived.Test.YtohkjjmknpbdaaaStable
import Derived.Test.YtohkjjmknpbdaaaSortNil
namespace Go.Proofs.Ytohkjjmknpbdaaa
open Go.RowKit Fl

set_option maxHeartbeats 800000 in
theorem sortStable_any (w : World) (B g cap : Nat) (D : List Nat) (n : Nat) (hn : n = D.length) (h100 : n ≤ 900) (h64 : W64 D) (h : Sr w B g cap D) :
    Calls Try.prog 41 #[.slice (some ⟨g, 0, none⟩) n cap, cmpF] w (StEnd w B g cap D) := by
  have H := Lib.hid h
  have Hn := Lib.hid hn
  have H64 := Lib.hid h64
  clear h hn h64
  go_enter Try.func41, Try.ntmps41
  go_wp2_with fail
  refine (stable_any w B g cap D n Hn.out h100 H64.out H.out).mono ?_
  rintro e w' ⟨rfl, M, h1, h2, h3, h4⟩
  have H1 := Lib.hid h1
  have H2 := Lib.hid h2
  have H3 := Lib.hid h3
  have H4 := Lib.hid h4
  clear h1 h2 h3 h4
  go_wp2
  go_end0
  exact ⟨rfl, M, H1.out, H2.out, H3.out, H4.out⟩

/-- how calc.Sort ends: a row in a new block, the same numbers, in order -/
def SortEnd (w : World) (xs : List Nat) (e : Ending) (w' : World) : Prop :=
  ∃ v M, e = .returned v ∧ (v = .slice none 0 0 ∧ M = [] ∨ ∃ g, v = .slice (some ⟨g, 0, none⟩) M.length M.length ∧ ∀ i, i < M.length → w'.cell? ⟨g, 0 + i, none⟩ = some (.float .f64 (M.getD i 0))) ∧ M.Perm xs ∧ Srt M ∧ Below w.heap.size w w'

set_option maxHeartbeats 800000 in
theorem sort_some (w : World) (xs : List Nat) (n : Nat) (hn : xs.length = n) (hx : xs ≠ []) (h900 : n ≤ 900) (b off c : Nat) (h64 : W64 xs) (hF : Fsl w (.slice (some ⟨b, off, none⟩) n c) xs) :
    Calls Try.prog 30 #[.slice (some ⟨b, off, none⟩) n c] w (SortEnd w xs) := by
  have H := Lib.hid hF
  have Hn := Lib.hid hn
  have H64 := Lib.hid h64
  clear hF hn h64
  go_enter Try.func30, Try.ntmps30
  go_wp2_with fail
  refine (clone_some w w.heap.size xs n Hn.out hx h900 b off c rfl H.out).mono ?_
  rintro e w1 ⟨g, cap, rfl, hs, hc, hm, hb⟩
  have Hs := Lib.hid hs
  have Hb := Lib.hid hb
  clear hs hb
  go_wp2_with fail
  refine (clip_some _ g n cap hc hm h900).mono ?_
  rintro e w2 ⟨rfl, rfl⟩
  go_wp2_with fail
  refine (sortStable_any _ w.heap.size g n xs n Hn.out.symm h900 H64.out (sr_cap Hs.out)).mono ?_
  rintro e w2 ⟨rfl, M, h1, h2, h3, h4⟩
  have H1 := Lib.hid h1
  have H2 := Lib.hid h2
  have H3 := Lib.hid h3
  have H4 := Lib.hid (Hb.out.trans h4)
  clear h1 h2 h3 h4
  go_wp2
  go_ret
  have e : M.length = n := by rw [H1.out.length_eq, Hn.out]
  refine ⟨_, M, rfl, .inr ⟨g, by rw [e]; rfl, fun i hi => ?_⟩, H1.out, H2.out, H4.out⟩
  rw [Nat.zero_add]
  exact sr_cell H3.out hi

end Go.Proofs.Ytohkjjmknpbdaaa
