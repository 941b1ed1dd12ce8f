/- reliquaryref3.OrderText hands back a text's code: the walk. The text has at most 1048576 bytes. -/
import Derived.Test.YtiajmjmneodfaaaDoorOwn
import Derived.Test.YtiajmjmneodfaaaDoorTake
namespace Go.Proofs.YtiajmjmneodfaaaDoor
open Go.RowKit

theorem esc_app : ∀ x y : List UInt8, esc (x ++ y) = esc x ++ esc y
  | [], _ => rfl
  | b :: x, y => by
    by_cases h : b = 0
    · subst h; rw [List.cons_append, esc_zero, esc_zero, esc_app x y]; rfl
    · rw [List.cons_append, esc_other h, esc_other h, esc_app x y]; rfl

theorem take_snoc (l : List UInt8) (k : Nat) (h : k < l.length) : l.take (k + 1) = l.take k ++ [l.getD k 0] := by
  rw [List.take_succ_eq_append_getElem h]; simp [List.getD, h]

def RtRel (l : List UInt8) (w : World) (B : Nat) (v i : Value) (wr : World) : Prop :=
  ∃ k : Nat, k ≤ l.length ∧ i = .int .i64 k ∧ OwnB wr B v (esc (l.take k)) ∧ Below B w wr

theorem two_cells (w : World) : ∀ j u, (cellsB [0, 1])[j]? = some u → (w.alloc (.cells #[.int .u8 0, .int .u8 1] 5)).cell? ((⟨w.heap.size, 0, none⟩ : Addr).add j) = some u := by
  intro j u hj
  match j, hj with
  | 0, hj => simp [cellsB] at hj; subst hj; simp [Addr.add]
  | 1, hj => simp [cellsB] at hj; subst hj; simp [Addr.add]
theorem cell_255 (w : World) : ∀ j u, (cellsB [255])[j]? = some u → (w.alloc (.cells #[.int .u8 255] 5)).cell? ((⟨w.heap.size, 0, none⟩ : Addr).add j) = some u := one_cell w 255
theorem cell_0 (w : World) : ∀ j u, (cellsB [0])[j]? = some u → (w.alloc (.cells #[.int .u8 0] 5)).cell? ((⟨w.heap.size, 0, none⟩ : Addr).add j) = some u := one_cell w 0

set_option maxHeartbeats 1600000 in
theorem refText_any (l : List UInt8) (hl : l.length ≤ 1048576) (w : World) : Calls Tryd.prog 16 #[.string (bs l)] w (TextEnd l w) := by
  have hsz : (bs l).size = l.length := bs_size l
  obtain ⟨B, hB⟩ : ∃ B, Hid (B = w.heap.size) := ⟨_, rfl⟩
  have hBle : B ≤ w.heap.size := by have := hB.out; omega
  go_enter Tryd.func16, Tryd.ntmps16
  go_wp2
  go_loopw [3, 4] (fun v i wr => RtRel l w B v i wr) (fun _ i _ => l.length - (intOf i).toNat)
  case atStart => exact ⟨0, Nat.zero_le _, rfl, ownB_nil _ _, Below.refl _ _⟩
  case round =>
    obtain ⟨k, hk, rfl, hown, hnx⟩ := hrel
    have hO := Lib.hid hown
    have hel := esc_len (l.take k)
    have hL : Hid ((esc (l.take k)).length ≤ 2097152) := Lib.hid (by simp at hel; omega)
    have hws := hnx.size
    clear hown hel
    by_cases hlt : k < l.length
    · have hidx := run_index_bs (P := Tryd.prog) 9 Tryd.underlying9 l k hlt
      have Hts := Lib.hid (take_snoc l k hlt)
      obtain ⟨b, HB⟩ : ∃ b, Hid (l.getD k 0 = b) := ⟨_, rfl⟩
      rw [HB.out] at hidx
      obtain ⟨E, HE⟩ : ∃ E, Hid (esc (l.take k) = E) := ⟨_, rfl⟩
      rw [HE.out] at hO hL
      by_cases hb : b = 0
      · have HN : Hid (l.getD k 0 = 0) := Lib.hid (HB.out.trans hb)
        rw [hb] at hidx
        have h00 : (((0 : UInt8).toNat : Nat) : Int) = 0 := rfl
        rw [h00] at hidx
        clear hb HB h00
        go_wp2_with (at_builtin; refine wpList_append_bs rfl _ _ rfl B _ E rfl (hO.out.alloc _) ⟨wr.heap.size, 0, none⟩ 1 [0] rfl ?c1 ?c2 ?c3 ?_)
        case c1 => exact cell_0 wr
        case c2 => have := hL.out; simp; omega
        case c3 => simp; omega
        intro v1 w1 hown1 hgrow1
        have hnx1 := ownB_below hnx hBle hO.out hgrow1
        have hO1 := Lib.hid hown1
        have hws1 := hnx1.size
        clear hown1 hgrow1 hO hnx
        go_wp2_with (at_builtin; refine wpList_append_bs rfl _ _ rfl B _ (E ++ [0]) rfl (hO1.out.alloc _) ⟨w1.heap.size, 0, none⟩ 1 [255] rfl ?c4 ?c5 ?c6 ?_)
        case c4 => exact cell_255 w1
        case c5 => have := hL.out; simp; omega
        case c6 => simp; omega
        intro v2 w2 hown2 hgrow2
        have hnx2 := ownB_below hnx1 hBle hO1.out hgrow2
        have hO2 := Lib.hid hown2
        clear hown2 hgrow2 hO1 hnx1
        go_wp2
        go_roundw
        case rel => exact ⟨k + 1, by omega, by go_num, by rw [Hts.out, esc_app, HE.out, HN.out, esc_zero]; exact hO2.out, hnx2⟩
        case measure => simp [intOf]; omega
      · have hb1 : ((b.toNat : Int) == 0) = false := by rw [show (0 : Int) = ((0 : Nat) : Int) from rfl, u8_is _ 0 (by omega)]; simpa using hb
        have HN := Lib.hid hb
        clear hb
        go_wp2_with (at_builtin; refine wpList_append_bs rfl _ _ rfl B _ E rfl (hO.out.alloc _) ⟨wr.heap.size, 0, none⟩ 1 [b] rfl ?c1 ?c2 ?c3 ?_)
        case c1 => exact one_cell wr b
        case c2 => have := hL.out; simp; omega
        case c3 => simp; omega
        intro v1 w1 hown1 hgrow1
        have hnx1 := ownB_below hnx hBle hO.out hgrow1
        have hO1 := Lib.hid hown1
        clear hown1 hgrow1 hO hnx
        go_wp2
        go_roundw
        case rel => exact ⟨k + 1, by omega, by go_num, by rw [Hts.out, esc_app, HE.out, HB.out, esc_other HN.out]; exact hO1.out, hnx1⟩
        case measure => simp [intOf]; omega
    · have hfull : l.take k = l := List.take_of_length_le (by omega)
      rw [hfull] at hO hL
      obtain ⟨E, HE⟩ : ∃ E, Hid (esc l = E) := ⟨_, rfl⟩
      rw [HE.out] at hO hL
      clear hfull
      go_wp2_with (at_builtin; refine wpList_append_bs rfl _ _ rfl B _ E rfl (hO.out.alloc _) ⟨wr.heap.size, 0, none⟩ 2 [0, 1] rfl ?c1 ?c2 ?c3 ?_)
      case c1 => exact two_cells wr
      case c2 => have := hL.out; simp; omega
      case c3 => simp; omega
      intro v1 w1 hown1 hgrow1
      have hnx1 := ownB_below hnx hBle hO.out hgrow1
      have htx := ownB_text hown1
      clear hown1 hgrow1 hO hnx
      go_wp2
      go_ret
      refine ⟨?_, by rw [← hB.out]; exact hnx1⟩
      unfold textL
      rw [HE.out]
      rfl
end Go.Proofs.YtiajmjmneodfaaaDoor
