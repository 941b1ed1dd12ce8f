/- order.Take hands back the text whose code comes first, what is behind, and the error: the walk. The bytes are of a length that a slice may have. -/
import Derived.Test.YtiajmjmneodfaaaDoorTakeL
import Derived.Test.YtiajmjmneodfaaaDoorText
namespace Go.Proofs.YtiajmjmneodfaaaDoor
open Go.RowKit

def TakeEnd (x : List UInt8 × List UInt8 × Nat) (w : World) (e : Ending) (w' : World) : Prop :=
  e = .returned (.tuple #[.string (bs x.1), .string (bs x.2.1), .int .i64 x.2.2]) ∧ Below w.heap.size w w'

def TkRel (l : List UInt8) (w : World) (i : Value) (wr : World) : Prop :=
  ∃ (k : Nat) (acc : List UInt8), k ≤ l.length ∧ i = .int .i64 k ∧ takeG acc (l.drop k) = takeG [] l ∧ acc.length ≤ k ∧ Lib.IsBuilder 56 5 w.heap.size w.heap.size (Lib.byteCells acc) wr ∧ Below w.heap.size w wr

theorem drop_cons {l : List UInt8} {k : Nat} (h : k < l.length) : l.drop k = l.getD k 0 :: l.drop (k + 1) := by
  rw [List.drop_eq_getElem_cons h]
  congr 1
  simp [List.getD, h]

theorem cells_snoc (acc : List UInt8) (b : UInt8) : Lib.byteCells acc ++ [Value.int .u8 (b.toNat : Int)] = Lib.byteCells (acc ++ [b]) := by simp [Lib.byteCells]

theorem write_any (B b : Nat) (acc : List UInt8) (c : UInt8) (w : World) (h : Lib.IsBuilder 56 5 B b (Lib.byteCells acc) w) (hlen : acc.length + 1 ≤ 140737488355328) (hBw : B ≤ w.heap.size) :
    Calls Tryd.prog 31 #[.pointer (some ⟨b, 0, none⟩), .int .u8 (c.toNat : Int)] w fun e w' => e = .returned .nilIface ∧ Lib.IsBuilder 56 5 B b (Lib.byteCells (acc ++ [c])) w' ∧ Below B w w' := by
  refine (Tryd.Builder_WriteByte B b (Lib.byteCells acc) c.toNat w h (by rw [Lib.byteCells_length]; exact hlen) hBw).mono ?_
  rintro e w' ⟨rfl, h1, h2⟩
  rw [cells_snoc] at h1
  exact ⟨rfl, .inr h1, h2⟩

set_option maxHeartbeats 1600000 in
theorem take_any (l : List UInt8) (hl : l.length ≤ 140737488355327) (w : World) : Calls Tryd.prog 14 #[.string (bs l)] w (TakeEnd (takeG [] l) w) := by
  have hsz : (bs l).size = l.length := bs_size l
  have hfr := Lib.hid (Lib.fresh_isBuilder 56 5 w)
  have hB0 : Hid (∀ o, Below w.heap.size w (w.alloc o)) := Lib.hid (fun o => (Below.refl _ _).alloc (Nat.le_refl _) o)
  go_enter Tryd.func14, Tryd.ntmps14
  go_wp2
  go_loopw [6] (fun i wr => TkRel l w i wr) (fun i _ => l.length - (intOf i).toNat)
  case atStart => exact ⟨0, [], Nat.zero_le _, rfl, by rw [List.drop_zero], Nat.zero_le _, hfr.out, hB0.out _⟩
  case round =>
    obtain ⟨k, acc, hk, rfl, htk, hacc, hbd, hnx⟩ := hrel
    have Htk := Lib.hid htk
    have Hbd := Lib.hid hbd
    clear htk hbd hfr hB0
    have hws := hnx.size
    by_cases hlt : k < l.length
    · have hidx := run_index_bs (P := Tryd.prog) 9 Tryd.underlying9 l k hlt
      have Hdr := Lib.hid (drop_cons hlt)
      obtain ⟨b, HB⟩ : ∃ b, Hid (l.getD k 0 = b) := ⟨_, rfl⟩
      rw [HB.out] at hidx
      by_cases hb : b = 0
      · have HN : Hid (l.getD k 0 = 0) := Lib.hid (HB.out.trans hb)
        rw [hb] at hidx
        have h00 : (((0 : UInt8).toNat : Nat) : Int) = 0 := rfl
        rw [h00] at hidx
        clear hb HB h00
        by_cases hend : k + 1 = l.length
        · have he1 : ((k : Int) + 1 == (l.length : Int)) = true := by simp; omega
          have hx : l.drop (k + 1) = [] := List.drop_eq_nil_of_le (by omega)
          have HT : Hid (takeG [] l = ([], [], 4)) := Lib.hid (by rw [← Htk.out, Hdr.out, hx, takeG_one])
          clear hend hx
          go_wp2
          go_ret3
          refine ⟨?_, hnx⟩
          rw [HT.out]; rfl
        · have hlt2 : k + 1 < l.length := by omega
          have he1 : ((k : Int) + 1 == (l.length : Int)) = false := by simp; omega
          have hidx2 := run_index_bs (P := Tryd.prog) 9 Tryd.underlying9 l (k + 1) hlt2
          rw [Int.natCast_add, Int.natCast_one] at hidx2
          have Hdr2 := Lib.hid (drop_cons hlt2)
          obtain ⟨c, HC⟩ : ∃ c, Hid (l.getD (k + 1) 0 = c) := ⟨_, rfl⟩
          rw [HC.out] at hidx2
          have Htk2 : Hid (takeG acc (0 :: c :: l.drop (k + 2)) = takeG [] l) := Lib.hid (by rw [← Htk.out, Hdr.out, HN.out, Hdr2.out, HC.out])
          clear hend HN HC Hdr Hdr2 Htk
          by_cases hc1 : c = 1
          · have hz1 : ((c.toNat : Int) == 1) = true := by rw [show (1 : Int) = ((1 : Nat) : Int) from rfl, u8_is _ 1 (by omega)]; simpa using hc1
            rw [hc1, takeG_end] at Htk2
            have hsl := run_slice_from_bs (P := Tryd.prog) 9 Tryd.underlying9 l (k + 2) (by omega)
            rw [Int.natCast_add, show ((2 : Nat) : Int) = 2 from rfl] at hsl
            have hw2 : IntKind.i64.wrap ((k : Int) + 2) = (k : Int) + 2 := by rw [IntKind.wrap_i64]; omega
            clear hc1
            have hS := Tryd.Builder_String_any w.heap.size w.heap.size acc wr.drew (Or.imp Lib.BuilderAt.drew Lib.BuilderAt.drew Hbd.out) hws
            have HS := Lib.hid hS
            clear hS
            go_wp2
            go_region_with (go_at_call 32; refine HS.out.mono ?_; rintro e w1 ⟨rfl, h1⟩)
            all_goals
              go_wp2
              go_ret3
              refine ⟨?_, hnx.drew.trans h1⟩
              rw [← Htk2.out]; rfl
          · have hz1 : ((c.toNat : Int) == 1) = false := by rw [show (1 : Int) = ((1 : Nat) : Int) from rfl, u8_is _ 1 (by omega)]; simpa using hc1
            by_cases hc2 : c = 255
            · have hz2 : ((c.toNat : Int) == 255) = true := by rw [show (255 : Int) = ((255 : Nat) : Int) from rfl, u8_is _ 255 (by omega)]; simpa using hc2
              rw [hc2, takeG_zero] at Htk2
              clear hc1 hc2
              have h00 : (((0 : UInt8).toNat : Nat) : Int) = 0 := rfl
              have hw := write_any _ _ acc 0 wr Hbd.out (by omega) hws
              rw [h00] at hw
              have Hw := Lib.hid hw
              clear hw h00
              have hz3 : ((c.toNat : Int) != 255) = false := by rw [bne, hz2]; rfl
              go_wp2_with fail
              refine Hw.out.mono ?_
              rintro e w1 ⟨rfl, h1, h2⟩
              have H1 := Lib.hid h1
              clear h1 Hw
              go_wp2
              go_roundw
              case rel => exact ⟨k + 2, acc ++ [0], by omega, by go_num, Htk2.out, by simp; omega, H1.out, hnx.trans h2⟩
              case measure => simp [intOf]; omega
            · have hz2 : ((c.toNat : Int) == 255) = false := by rw [show (255 : Int) = ((255 : Nat) : Int) from rfl, u8_is _ 255 (by omega)]; simpa using hc2
              have hz3 : ((c.toNat : Int) != 255) = true := by rw [bne, hz2]; rfl
              rw [takeG_form _ _ _ hc1 hc2] at Htk2
              clear hc1 hc2
              go_wp2
              go_ret3
              refine ⟨?_, hnx⟩
              rw [← Htk2.out]; rfl
      · have hb1 : ((b.toNat : Int) == 0) = false := by rw [show (0 : Int) = ((0 : Nat) : Int) from rfl, u8_is _ 0 (by omega)]; simpa using hb
        have hb2 : ((b.toNat : Int) != 0) = true := by rw [bne, hb1]; rfl
        have HN := Lib.hid hb
        clear hb
        go_wp2_with fail
        refine (write_any _ _ acc b wr Hbd.out (by omega) hws).mono ?_
        rintro e w1 ⟨rfl, h1, h2⟩
        have H1 := Lib.hid h1
        clear h1
        go_wp2
        go_roundw
        case rel => exact ⟨k + 1, acc ++ [b], by omega, by go_num, by rw [← Htk.out, Hdr.out, HB.out, takeG_other _ _ HN.out], by simp; omega, H1.out, hnx.trans h2⟩
        case measure => simp [intOf]; omega
    · go_wp2
      go_ret3
      have : l.drop k = [] := List.drop_eq_nil_of_le (by omega)
      rw [this, takeG_nil] at Htk
      refine ⟨?_, hnx⟩
      rw [← Htk.out]; rfl
end Go.Proofs.YtiajmjmneodfaaaDoor
