/- reliquaryref3.OrderTake hands back the text whose code comes first, what is behind, and the error: the walk. There are at most 1048576 bytes. -/
import Derived.Test.YtiajmjmneodfaaaDoorRefText
namespace Go.Proofs.YtiajmjmneodfaaaDoor
open Go.RowKit

def RkRel (l : List UInt8) (w : World) (B : Nat) (v i : Value) (wr : World) : Prop :=
  ∃ (k : Nat) (acc : List UInt8), k ≤ l.length ∧ i = .int .i64 k ∧ takeG acc (l.drop k) = takeG [] l ∧ acc.length ≤ k ∧ OwnB wr B v acc ∧ Below B w wr

set_option maxHeartbeats 1600000 in
theorem refTake_any (l : List UInt8) (hl : l.length ≤ 1048576) (w : World) : Calls Tryd.prog 15 #[.string (bs l)] w (TakeEnd (takeG [] l) w) := by
  have hsz : (bs l).size = l.length := bs_size l
  obtain ⟨B, hB⟩ : ∃ B, Hid (B = w.heap.size) := ⟨_, rfl⟩
  have hBle : B ≤ w.heap.size := by have := hB.out; omega
  go_enter Tryd.func15, Tryd.ntmps15
  go_wp2
  go_loopw [5, 6] (fun v i wr => RkRel l w B v i wr) (fun _ i _ => l.length - (intOf i).toNat)
  case atStart => exact ⟨0, [], Nat.zero_le _, rfl, by rw [List.drop_zero], Nat.zero_le _, ownB_nil _ _, Below.refl _ _⟩
  case round =>
    obtain ⟨k, acc, hk, rfl, htk, hacc, hown, hnx⟩ := hrel
    have Htk := Lib.hid htk
    have hO := Lib.hid hown
    clear htk hown
    have hws := hnx.size
    by_cases hlt : k < l.length
    · have hidx := run_index_bs (P := Tryd.prog) 9 Tryd.underlying9 l k hlt
      have Hdr := Lib.hid (drop_cons hlt)
      obtain ⟨b, HB⟩ : ∃ b, Hid (l.getD k 0 = b) := ⟨_, rfl⟩
      rw [HB.out] at hidx
      by_cases hb : b = 0
      · have HN : Hid (l.getD k 0 = 0) := Lib.hid (HB.out.trans hb)
        rw [hb] at hidx
        have h00 : (((0 : UInt8).toNat : Nat) : Int) = 0 := rfl
        rw [h00] at hidx
        clear hb HB h00
        by_cases hend : k + 1 = l.length
        · have he1 : decide (l.length ≤ k + 1) = true := decide_eq_true (by omega)
          have he2 : decide ((l.length : Int) ≤ (k : Int) + 1) = true := decide_eq_true (by omega)
          have hx : l.drop (k + 1) = [] := List.drop_eq_nil_of_le (by omega)
          have HT : Hid (takeG [] l = ([], [], 4)) := Lib.hid (by rw [← Htk.out, Hdr.out, hx, takeG_one])
          clear hend hx
          go_wp2
          go_ret3
          refine ⟨?_, by rw [← hB.out]; exact hnx⟩
          rw [HT.out]; rfl
        · have hlt2 : k + 1 < l.length := by omega
          have he1 : decide (l.length ≤ k + 1) = false := decide_eq_false (by omega)
          have he2 : decide ((l.length : Int) ≤ (k : Int) + 1) = false := decide_eq_false (by omega)
          have hidx2 := run_index_bs (P := Tryd.prog) 9 Tryd.underlying9 l (k + 1) hlt2
          rw [Int.natCast_add, Int.natCast_one] at hidx2
          have Hdr2 := Lib.hid (drop_cons hlt2)
          obtain ⟨c, HC⟩ : ∃ c, Hid (l.getD (k + 1) 0 = c) := ⟨_, rfl⟩
          rw [HC.out] at hidx2
          have Htk2 : Hid (takeG acc (0 :: c :: l.drop (k + 2)) = takeG [] l) := Lib.hid (by rw [← Htk.out, Hdr.out, HN.out, Hdr2.out, HC.out])
          clear hend HN HC Hdr Hdr2 Htk
          by_cases hc1 : c = 1
          · have hz1 : ((c.toNat : Int) == 1) = true := by rw [show (1 : Int) = ((1 : Nat) : Int) from rfl, u8_is _ 1 (by omega)]; simpa using hc1
            rw [hc1, takeG_end] at Htk2
            have hsl := run_slice_from_bs (P := Tryd.prog) 9 Tryd.underlying9 l (k + 2) (by omega)
            rw [Int.natCast_add, show ((2 : Nat) : Int) = 2 from rfl] at hsl
            have hw2 : IntKind.i64.wrap ((k : Int) + 2) = (k : Int) + 2 := by rw [IntKind.wrap_i64]; omega
            have htx := ownB_text hO.out.drew
            clear hc1
            go_wp2
            go_region
            all_goals
              go_wp2
              go_ret3
              refine ⟨?_, by rw [← hB.out]; exact hnx.drew⟩
              rw [← Htk2.out]; rfl
          · have hz1 : ((c.toNat : Int) == 1) = false := by rw [show (1 : Int) = ((1 : Nat) : Int) from rfl, u8_is _ 1 (by omega)]; simpa using hc1
            by_cases hc2 : c = 255
            · have hz2 : ((c.toNat : Int) == 255) = true := by rw [show (255 : Int) = ((255 : Nat) : Int) from rfl, u8_is _ 255 (by omega)]; simpa using hc2
              rw [hc2, takeG_zero] at Htk2
              clear hc1 hc2
              go_wp2_with (at_builtin; refine wpList_append_bs rfl _ _ rfl B _ acc rfl (hO.out.alloc _) ⟨wr.heap.size, 0, none⟩ 1 [0] rfl ?c1 ?c2 ?c3 ?_)
              case c1 => exact cell_0 wr
              case c2 => simp; omega
              case c3 => simp; omega
              intro v1 w1 hown1 hgrow1
              have hnx1 := ownB_below hnx hBle hO.out hgrow1
              have hO1 := Lib.hid hown1
              clear hown1 hgrow1 hO hnx
              go_wp2
              go_roundw
              case rel => exact ⟨k + 2, acc ++ [0], by omega, by go_num, Htk2.out, by simp; omega, hO1.out, hnx1⟩
              case measure => simp [intOf]; omega
            · have hz2 : ((c.toNat : Int) == 255) = false := by rw [show (255 : Int) = ((255 : Nat) : Int) from rfl, u8_is _ 255 (by omega)]; simpa using hc2
              rw [takeG_form _ _ _ hc1 hc2] at Htk2
              clear hc1 hc2
              go_wp2
              go_ret3
              refine ⟨?_, by rw [← hB.out]; exact hnx⟩
              rw [← Htk2.out]; rfl
      · have hb1 : ((b.toNat : Int) == 0) = false := by rw [show (0 : Int) = ((0 : Nat) : Int) from rfl, u8_is _ 0 (by omega)]; simpa using hb
        have hb2 : ((b.toNat : Int) != 0) = true := by rw [bne, hb1]; rfl
        have HN := Lib.hid hb
        clear hb
        go_wp2_with (at_builtin; refine wpList_append_bs rfl _ _ rfl B _ acc rfl (hO.out.alloc _) ⟨wr.heap.size, 0, none⟩ 1 [b] rfl ?c1 ?c2 ?c3 ?_)
        case c1 => exact one_cell wr b
        case c2 => simp; omega
        case c3 => simp; omega
        intro v1 w1 hown1 hgrow1
        have hnx1 := ownB_below hnx hBle hO.out hgrow1
        have hO1 := Lib.hid hown1
        clear hown1 hgrow1 hO hnx
        go_wp2
        go_roundw
        case rel => exact ⟨k + 1, acc ++ [b], by omega, by go_num, by rw [← Htk.out, Hdr.out, HB.out, takeG_other _ _ HN.out], by simp; omega, hO1.out, hnx1⟩
        case measure => simp [intOf]; omega
    · go_wp2
      go_ret3
      have : l.drop k = [] := List.drop_eq_nil_of_le (by omega)
      rw [this, takeG_nil] at Htk
      refine ⟨?_, by rw [← hB.out]; exact hnx⟩
      rw [← Htk.out]; rfl
end Go.Proofs.YtiajmjmneodfaaaDoor
