/- order.Next hands back the next text: the walk. The text is of a length that an int holds. -/
import Derived.Test.YtiajmjmneodfaaaDoorProg
import Derived.Test.YtiajmjmneodfaaaDoorBytes
import Derived.WalkKit
import Derived.WalkSpells
import Derived.WalkLawsBesides
import Derived.Laws.BitsAllLaws
import Derived.Lib.Hide
import Derived.Outline
import Derived.RegionTactic
import Derived.BigRegion
import Derived.Laws.IdiomStrings
namespace Go.Proofs.YtiajmjmneodfaaaDoor
open Go.RowKit

theorem bs_size (l : List UInt8) : (bs l).size = l.length := by simp [bs, ByteArray.size]
theorem bs_list (l : List UInt8) : (bs l).toList = l := ByteArray.toList_mk l
theorem bs_data (l : List UInt8) : (bs l).data.toList = l := by simp [bs]
theorem bs_of (s : ByteArray) : s = bs s.data.toList := by cases s; simp [bs]
theorem bs_add (a b : List UInt8) : bs a ++ bs b = bs (a ++ b) := ByteArray.mk_append_mk a b
theorem bs_extract (l : List UInt8) (a b : Nat) : (bs l).extract a b = bs ((l.drop a).take (b - a)) := ByteArray.extract_mk l a b
theorem bs_get (l : List UInt8) (i : Nat) (h : i < (bs l).size) : (bs l)[i] = l.getD i 0 := by
  have h' : i < l.length := by rw [bs_size] at h; exact h
  have e : l.getD i 0 = l[i] := by simp [List.getD, h']
  rw [e]
  show (bs l).data[i] = _
  simp [bs]

section
variable {P : Program}
theorem run_index_bs (t : TypeId) (ht : P.underlying t = some .string) (l : List UInt8) (i : Nat) (h : i < l.length) (w : World) :
    (Instr.index t (.string (bs l)) (.int .i64 (i : Int))).run P w = .ok (.int .u8 ((l.getD i 0).toNat : Int)) w := by
  rw [run_index_string w t (bs l) .i64 i ht, dif_pos ⟨by omega, by rw [bs_size]; omega⟩]
  have e : (bs l)[(i : Int).toNat]'(by rw [bs_size]; simpa using h) = l.getD i 0 := bs_get l i (by rw [bs_size]; omega)
  rw [e]
theorem run_slice_to_bs (t : TypeId) (ht : P.underlying t = some .string) (l : List UInt8) (j : Nat) (h : j ≤ l.length) (w : World) :
    (Instr.slice t (.string (bs l)) none (some (.int .i64 (j : Int))) none).run P w = .ok (.string (bs (l.take j))) w := by
  rw [run_slice_string_to_if w t (bs l) .i64 j ht, if_pos ⟨by omega, by rw [bs_size]; omega⟩, bs_extract]
  simp
theorem run_slice_from_bs (t : TypeId) (ht : P.underlying t = some .string) (l : List UInt8) (j : Nat) (h : j ≤ l.length) (w : World) :
    (Instr.slice t (.string (bs l)) (some (.int .i64 (j : Int))) none none).run P w = .ok (.string (bs (l.drop j))) w := by
  rw [run_slice_string_from_if w t (bs l) .i64 j ht, if_pos ⟨by omega, by rw [bs_size]; omega⟩, bs_extract, bs_size, List.take_of_length_le (by simp)]
  simp
end

def NextEnd (l : List UInt8) (w : World) (e : Ending) (w' : World) : Prop := e = .returned (.tuple #[.string (bs (nextL l)), .bool (nextB l)]) ∧ Below w.heap.size w w'

def NextRel (l : List UInt8) (s : Value) : Prop := ∃ m : Nat, m ≤ l.length ∧ trimN l m = cutN l ∧ s = .string (bs (l.take m))
def strLen : Value → Nat
  | .string b => b.size
  | _ => 0

theorem u8_is (b : UInt8) (n : Nat) (hn : n < 256) : ((b.toNat : Int) == (n : Int)) = decide (b = UInt8.ofNat n) := by
  by_cases h : b = UInt8.ofNat n
  · subst h
    have : (UInt8.ofNat n).toNat = n := by simp [UInt8.toNat_ofNat']; omega
    rw [this]; simp
  · have h2 : b.toNat ≠ n := fun e => h (UInt8.toNat.inj (by rw [e]; simp [UInt8.toNat_ofNat']; omega))
    rw [decide_eq_false h]
    have : ¬ ((b.toNat : Int) = (n : Int)) := by omega
    simpa using this

set_option maxHeartbeats 400000 in
theorem next_any (l : List UInt8) (hl : l.length ≤ 9223372036854775807) (w : World) : Calls Tryd.prog 11 #[.string (bs l)] w (NextEnd l w) := by
  go_enter Tryd.func11, Tryd.ntmps11
  go_wp2
  go_loop [0] (fun s => NextRel l s) (fun s => strLen s)
  case atStart => exact ⟨l.length, Nat.le_refl _, rfl, by rw [List.take_length]⟩
  case round =>
    obtain ⟨m, hm, hmt, rfl⟩ := hrel
    have hlen : (l.take m).length = m := by simp; omega
    have hsz : (bs (l.take m)).size = m := by rw [bs_size, hlen]
    rcases m with _ | j
    · have hli : (bs (l.take 0)).toList.isEmpty = true := by rw [bs_list]; simp
      generalize bs (l.take 0) = x at hsz hli ⊢
      clear hlen
      have HM := Lib.hid hmt
      clear hmt
      go_wp2
      go_ret2
      refine ⟨?_, Below.refl _ _⟩
      have h0 : cutN l = 0 := by rw [← HM.out]; rfl
      rw [nextL_none h0]; unfold nextB; rw [h0]; rfl
    · have hj : j < l.length := by omega
      have hidx := run_index_bs (P := Tryd.prog) 9 Tryd.underlying9 (l.take (j + 1)) j (by rw [hlen]; omega)
      have hget : (l.take (j + 1)).getD j 0 = l.getD j 0 := by simp [List.getD]
      rw [hget] at hidx
      have hsl := run_slice_to_bs (P := Tryd.prog) 9 Tryd.underlying9 (l.take (j + 1)) j (by rw [hlen]; omega)
      rw [List.take_take, Nat.min_eq_left (Nat.le_succ j)] at hsl
      have hli : (bs (l.take (j + 1))).toList.isEmpty = false := by rw [bs_list]; cases hx : l.take (j + 1) with | nil => rw [hx] at hlen; simp at hlen | cons _ _ => rfl
      generalize bs (l.take (j + 1)) = x at hsz hidx hsl hli ⊢
      have HM := Lib.hid hmt
      have hBx : ∃ b, Hid (l.getD j 0 = b) := ⟨_, rfl⟩
      obtain ⟨b, hB⟩ := hBx
      rw [hB.out] at hidx
      clear hmt hlen hget
      by_cases h255 : b = 255
      · have ht : ((b.toNat : Int) == 255) = true := by rw [show (255 : Int) = ((255 : Nat) : Int) from rfl, u8_is _ 255 (by omega)]; simpa using h255
        have H255 : Hid (l.getD j 0 = 255) := Lib.hid (hB.out.trans h255)
        clear h255
        go_wp2
        go_round
        case rel => exact ⟨j, by omega, trimN_step l j _ HM.out H255.out, rfl⟩
        case measure => simp [strLen, bs_size]; omega
      · have ht : ((b.toNat : Int) == 255) = false := by rw [show (255 : Int) = ((255 : Nat) : Int) from rfl, u8_is _ 255 (by omega)]; simpa using h255
        have hcut : Hid (cutN l = j + 1) := Lib.hid (by rw [← HM.out]; exact trimN_stop l j (by rw [hB.out]; exact h255))
        obtain ⟨c, hC⟩ : ∃ c, Hid (b + 1 = c) := ⟨_, rfl⟩
        have hc1 : c.toNat = b.toNat + 1 := by rw [← hC.out]; exact u8_add_one h255
        have hb8 := c.toNat_lt
        have hm8 : ((b.toNat : Int) + 1) % 256 = (c.toNat : Int) := by omega
        have hw8 : IntKind.u8.wrap ((b.toNat : Int) + 1) = (c.toNat : Int) := by rw [← hm8]; rfl
        clear HM h255 hc1 hb8
        have hconv : (convert 52 9 (.slice (some ⟨w.heap.size, 0, none⟩) 1 1)).run Tryd.prog (w.alloc (.cells #[.int .u8 (c.toNat : Int)] 5)).drew = .ok (.string (bs [c])) (w.alloc (.cells #[.int .u8 (c.toNat : Int)] 5)).drew := by
          exact run_convert_bytes_back _ 52 9 5 ⟨w.heap.size, 0, none⟩ 1 [c] Tryd.underlying52 Tryd.underlying5 Tryd.underlying9 (fun i hi => by
            obtain rfl : i = 0 := by simpa using hi
            simp [Addr.add])
        have hcat : ∀ w, (Op.stringOp .add (bs (l.take j)) (bs [c])).run Tryd.prog w = .ok (.string (bs (l.take j ++ [c]))) w := fun w => by
          rw [run_string_add_sum w _ _ (by simp [bs_size]; omega), bs_add]
        go_wp2
        go_region
        go_wp2
        go_ret2
        have hne : cutN l ≠ 0 := by rw [hcut.out]; omega
        refine ⟨?_, ((Below.refl _ _).alloc (Nat.le_refl _) _).drew⟩
        rw [nextL_some hne, hcut.out, Nat.add_sub_cancel, hB.out, hC.out]
        unfold nextB
        rw [hcut.out]
        rfl
end Go.Proofs.YtiajmjmneodfaaaDoor
