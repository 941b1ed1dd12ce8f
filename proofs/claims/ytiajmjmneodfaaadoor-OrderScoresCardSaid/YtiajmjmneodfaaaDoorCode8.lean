/- The reference's Code8 hands back the eight bytes of a word, the greatest first: the walk. The word is below 2^64. -/
import Derived.Test.YtiajmjmneodfaaaDoorOwn
namespace Go.Proofs.YtiajmjmneodfaaaDoor
open Go.RowKit

theorem one_cell_z (w : World) (b : UInt8) (z : Int) (h : (b.toNat : Int) = z) : ∀ j u, (cellsB [b])[j]? = some u → (w.alloc (.cells #[.int .u8 z] 5)).cell? ((⟨w.heap.size, 0, none⟩ : Addr).add j) = some u := by
  subst h
  exact one_cell w b

set_option maxRecDepth 100000 in
set_option maxHeartbeats 3200000 in
theorem code8_any (n : Nat) (hn : n < 18446744073709551616) (w : World) : Calls Tryd.prog 22 #[.int .u64 (n : Int)] w (ScoreEnd n w) := by
  obtain ⟨b0, B0⟩ : ∃ b, Hid (UInt8.ofNat (n / 72057594037927936) = b) := ⟨_, rfl⟩
  have Z0 : Hid ((b0.toNat : Int) = (n : Int) / 72057594037927936) := Lib.hid (by rw [← B0.out, u8_nat]; omega)
  obtain ⟨b1, B1⟩ : ∃ b, Hid (UInt8.ofNat (n / 281474976710656) = b) := ⟨_, rfl⟩
  have Z1 : Hid ((b1.toNat : Int) = (n : Int) / 281474976710656 % 256) := Lib.hid (by rw [← B1.out, u8_nat]; omega)
  obtain ⟨b2, B2⟩ : ∃ b, Hid (UInt8.ofNat (n / 1099511627776) = b) := ⟨_, rfl⟩
  have Z2 : Hid ((b2.toNat : Int) = (n : Int) / 1099511627776 % 256) := Lib.hid (by rw [← B2.out, u8_nat]; omega)
  obtain ⟨b3, B3⟩ : ∃ b, Hid (UInt8.ofNat (n / 4294967296) = b) := ⟨_, rfl⟩
  have Z3 : Hid ((b3.toNat : Int) = (n : Int) / 4294967296 % 256) := Lib.hid (by rw [← B3.out, u8_nat]; omega)
  obtain ⟨b4, B4⟩ : ∃ b, Hid (UInt8.ofNat (n / 16777216) = b) := ⟨_, rfl⟩
  have Z4 : Hid ((b4.toNat : Int) = (n : Int) / 16777216 % 256) := Lib.hid (by rw [← B4.out, u8_nat]; omega)
  obtain ⟨b5, B5⟩ : ∃ b, Hid (UInt8.ofNat (n / 65536) = b) := ⟨_, rfl⟩
  have Z5 : Hid ((b5.toNat : Int) = (n : Int) / 65536 % 256) := Lib.hid (by rw [← B5.out, u8_nat]; omega)
  obtain ⟨b6, B6⟩ : ∃ b, Hid (UInt8.ofNat (n / 256) = b) := ⟨_, rfl⟩
  have Z6 : Hid ((b6.toNat : Int) = (n : Int) / 256 % 256) := Lib.hid (by rw [← B6.out, u8_nat]; omega)
  obtain ⟨b7, B7⟩ : ∃ b, Hid (UInt8.ofNat (n) = b) := ⟨_, rfl⟩
  have Z7 : Hid ((b7.toNat : Int) = (n : Int) % 256) := Lib.hid (by rw [← B7.out, u8_nat])
  have HX : Hid (code8 n = [b0, b1, b2, b3, b4, b5, b6, b7]) := Lib.hid (by unfold code8; rw [B0.out, B1.out, B2.out, B3.out, B4.out, B5.out, B6.out, B7.out])
  clear B0 B1 B2 B3 B4 B5 B6 B7
  obtain ⟨B, hB⟩ : ∃ B, Hid (B = w.heap.size) := ⟨_, rfl⟩
  have hBle : B ≤ w.heap.size := by have := hB.out; omega
  have hO : Hid (OwnB w B (.slice none 0 0) []) := Lib.hid (ownB_nil _ _)
  have hb : Hid (Below B w w) := Lib.hid (Below.refl _ _)
  go_enter Tryd.func22, Tryd.ntmps22
  go_wp2
  refine wp_loop_rounds 9 ?_
  rw [rounds_succ]
  go_wp2_with (at_builtin; refine wpList_append_bs rfl _ _ rfl B _ [] rfl (hO.out.alloc _) ⟨w.heap.size, 0, none⟩ 1 [b0] rfl ?c01 ?c02 ?c03 ?_)
  case c01 => exact one_cell_z w b0 _ Z0.out
  case c02 => simp
  case c03 => simp; omega
  intro v0 w0 hown0 hgrow0
  have hb0 : Hid (Below B w w0) := Lib.hid (ownB_below hb.out hBle hO.out hgrow0)
  have hO0 : Hid (OwnB w0 B v0 [b0]) := Lib.hid hown0
  have hs0 : B ≤ w0.heap.size := Nat.le_trans hBle hb0.out.size
  clear hown0 hgrow0 hO hb
  go_wp2
  rw [rounds_succ]
  go_wp2_with (at_builtin; refine wpList_append_bs rfl _ _ rfl B _ [b0] rfl (hO0.out.alloc _) ⟨w0.heap.size, 0, none⟩ 1 [b1] rfl ?c11 ?c12 ?c13 ?_)
  case c11 => exact one_cell_z w0 b1 _ Z1.out
  case c12 => simp
  case c13 => simp; omega
  intro v1 w1 hown1 hgrow1
  have hb1 : Hid (Below B w w1) := Lib.hid (ownB_below hb0.out hBle hO0.out hgrow1)
  have hO1 : Hid (OwnB w1 B v1 [b0, b1]) := Lib.hid hown1
  have hs1 : B ≤ w1.heap.size := Nat.le_trans hBle hb1.out.size
  clear hown1 hgrow1 hO0 hb0
  go_wp2
  rw [rounds_succ]
  go_wp2_with (at_builtin; refine wpList_append_bs rfl _ _ rfl B _ [b0, b1] rfl (hO1.out.alloc _) ⟨w1.heap.size, 0, none⟩ 1 [b2] rfl ?c21 ?c22 ?c23 ?_)
  case c21 => exact one_cell_z w1 b2 _ Z2.out
  case c22 => simp
  case c23 => simp; omega
  intro v2 w2 hown2 hgrow2
  have hb2 : Hid (Below B w w2) := Lib.hid (ownB_below hb1.out hBle hO1.out hgrow2)
  have hO2 : Hid (OwnB w2 B v2 [b0, b1, b2]) := Lib.hid hown2
  have hs2 : B ≤ w2.heap.size := Nat.le_trans hBle hb2.out.size
  clear hown2 hgrow2 hO1 hb1
  go_wp2
  rw [rounds_succ]
  go_wp2_with (at_builtin; refine wpList_append_bs rfl _ _ rfl B _ [b0, b1, b2] rfl (hO2.out.alloc _) ⟨w2.heap.size, 0, none⟩ 1 [b3] rfl ?c31 ?c32 ?c33 ?_)
  case c31 => exact one_cell_z w2 b3 _ Z3.out
  case c32 => simp
  case c33 => simp; omega
  intro v3 w3 hown3 hgrow3
  have hb3 : Hid (Below B w w3) := Lib.hid (ownB_below hb2.out hBle hO2.out hgrow3)
  have hO3 : Hid (OwnB w3 B v3 [b0, b1, b2, b3]) := Lib.hid hown3
  have hs3 : B ≤ w3.heap.size := Nat.le_trans hBle hb3.out.size
  clear hown3 hgrow3 hO2 hb2
  go_wp2
  rw [rounds_succ]
  go_wp2_with (at_builtin; refine wpList_append_bs rfl _ _ rfl B _ [b0, b1, b2, b3] rfl (hO3.out.alloc _) ⟨w3.heap.size, 0, none⟩ 1 [b4] rfl ?c41 ?c42 ?c43 ?_)
  case c41 => exact one_cell_z w3 b4 _ Z4.out
  case c42 => simp
  case c43 => simp; omega
  intro v4 w4 hown4 hgrow4
  have hb4 : Hid (Below B w w4) := Lib.hid (ownB_below hb3.out hBle hO3.out hgrow4)
  have hO4 : Hid (OwnB w4 B v4 [b0, b1, b2, b3, b4]) := Lib.hid hown4
  have hs4 : B ≤ w4.heap.size := Nat.le_trans hBle hb4.out.size
  clear hown4 hgrow4 hO3 hb3
  go_wp2
  rw [rounds_succ]
  go_wp2_with (at_builtin; refine wpList_append_bs rfl _ _ rfl B _ [b0, b1, b2, b3, b4] rfl (hO4.out.alloc _) ⟨w4.heap.size, 0, none⟩ 1 [b5] rfl ?c51 ?c52 ?c53 ?_)
  case c51 => exact one_cell_z w4 b5 _ Z5.out
  case c52 => simp
  case c53 => simp; omega
  intro v5 w5 hown5 hgrow5
  have hb5 : Hid (Below B w w5) := Lib.hid (ownB_below hb4.out hBle hO4.out hgrow5)
  have hO5 : Hid (OwnB w5 B v5 [b0, b1, b2, b3, b4, b5]) := Lib.hid hown5
  have hs5 : B ≤ w5.heap.size := Nat.le_trans hBle hb5.out.size
  clear hown5 hgrow5 hO4 hb4
  go_wp2
  rw [rounds_succ]
  go_wp2_with (at_builtin; refine wpList_append_bs rfl _ _ rfl B _ [b0, b1, b2, b3, b4, b5] rfl (hO5.out.alloc _) ⟨w5.heap.size, 0, none⟩ 1 [b6] rfl ?c61 ?c62 ?c63 ?_)
  case c61 => exact one_cell_z w5 b6 _ Z6.out
  case c62 => simp
  case c63 => simp; omega
  intro v6 w6 hown6 hgrow6
  have hb6 : Hid (Below B w w6) := Lib.hid (ownB_below hb5.out hBle hO5.out hgrow6)
  have hO6 : Hid (OwnB w6 B v6 [b0, b1, b2, b3, b4, b5, b6]) := Lib.hid hown6
  have hs6 : B ≤ w6.heap.size := Nat.le_trans hBle hb6.out.size
  clear hown6 hgrow6 hO5 hb5
  go_wp2
  rw [rounds_succ]
  go_wp2_with (at_builtin; refine wpList_append_bs rfl _ _ rfl B _ [b0, b1, b2, b3, b4, b5, b6] rfl (hO6.out.alloc _) ⟨w6.heap.size, 0, none⟩ 1 [b7] rfl ?c71 ?c72 ?c73 ?_)
  case c71 => exact one_cell_z w6 b7 _ Z7.out
  case c72 => simp
  case c73 => simp; omega
  intro v7 w7 hown7 hgrow7
  have hb7 : Hid (Below B w w7) := Lib.hid (ownB_below hb6.out hBle hO6.out hgrow7)
  have hO7 : Hid (OwnB w7 B v7 [b0, b1, b2, b3, b4, b5, b6, b7]) := Lib.hid hown7
  have hs7 : B ≤ w7.heap.size := Nat.le_trans hBle hb7.out.size
  clear hown7 hgrow7 hO6 hb6
  go_wp2
  rw [rounds_succ]
  have htx := ownB_text hO7.out
  go_wp2
  go_ret
  refine ⟨?_, by rw [← hB.out]; exact hb7.out⟩
  rw [HX.out]; rfl
end Go.Proofs.YtiajmjmneodfaaaDoor
