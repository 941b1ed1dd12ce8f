/- OrderNexts answers true: the walk. The text is of a length that an int holds; the library's variable internal/bytealg.MaxLen holds some int. -/
import Derived.Test.YtiajmjmneodfaaaDoorAwake
namespace Go.Proofs.YtiajmjmneodfaaaDoor
open Go.RowKit Fl

theorem i64_and15 (n : Int) : bits .and .i64 n 15 = n % 16 := by
  have h15 : (BitVec.ofInt 64 15).toNat = 2 ^ 4 - 1 := by decide
  have key : (BitVec.ofInt 64 n &&& BitVec.ofInt 64 15).toNat = (n % ((2 ^ 64 : Nat) : Int)).toNat % 2 ^ 4 := by
    rw [BitVec.toNat_and, BitVec.toNat_ofInt, h15, Nat.and_two_pow_sub_one_eq_mod]
  show IntKind.i64.wrap ((BitVec.ofInt 64 n &&& BitVec.ofInt 64 15).toNat : Nat) = n % 16
  rw [key, IntKind.wrap_i64]
  omega

theorem next_none (l : List UInt8) (hl : l.length ≤ 9223372036854775807) (h0 : cutN l = 0) (w : World) : Calls Tryd.prog 11 #[.string (bs l)] w fun e w' => e = .returned (.tuple #[.string ⟨#[]⟩, .bool false]) ∧ Below w.heap.size w w' := by
  refine (next_any l hl w).mono ?_
  rintro e w' ⟨rfl, hb⟩
  refine ⟨?_, hb⟩
  rw [nextL_none h0]; unfold nextB; rw [h0]; rfl
theorem next_some (l : List UInt8) (hl : l.length ≤ 9223372036854775807) (h0 : cutN l ≠ 0) (w : World) : Calls Tryd.prog 11 #[.string (bs l)] w fun e w' => e = .returned (.tuple #[.string (bs (nextL l)), .bool true]) ∧ Below w.heap.size w w' := by
  refine (next_any l hl w).mono ?_
  rintro e w' ⟨rfl, hb⟩
  refine ⟨?_, hb⟩
  have : nextB l = true := by unfold nextB; simpa using h0
  rw [this]
theorem all_255 {l : List UInt8} (h0 : cutN l = 0) (i : Nat) (hi : i < l.length) : l.getD i 0 = 255 := trimN_behind l l.length i (by unfold cutN at h0; omega) hi

def ByteRel (n : Nat) (j : Value) : Prop := ∃ k : Nat, k ≤ n ∧ j = .int .i64 k

def NxRel (m : Nat) (W : World) (k i : Value) (wr : World) : Prop :=
  ∃ (l : List UInt8) (j : Nat), k = .string (bs l) ∧ i = .int .i64 j ∧ l.length ≤ 50 ∧ j ≤ m ∧ Below W.heap.size W wr

set_option maxHeartbeats 1600000 in
theorem nexts_walk (l : List UInt8) (hl : l.length ≤ 9223372036854775807) (t : Int) (w : World) (hm : MaxIs w) :
    Calls Tryd.prog 3 #[.string (bs l), .int .i64 t] w (True1 w) := by
  have Hm := hm
  clear hm
  have hsz : (bs l).size = l.length := bs_size l
  obtain ⟨m, hmx⟩ : ∃ m : Nat, (m : Int) = t % 16 := ⟨(t % 16).toNat, by omega⟩
  have hm16 : m < 16 := by omega
  have hand : bits .and .i64 t 15 = (m : Int) := by rw [i64_and15, hmx]
  clear hmx
  by_cases h50 : 50 < l.length
  · clear hand hm16
    go_enter Tryd.func3, Tryd.ntmps3
    go_wp2_with fail
    refine (awake_any w Hm).mono ?_
    rintro e w1 ⟨rfl, h1⟩
    go_wp2
    go_ret
    exact ⟨rfl, h1⟩
  · have hl50 : l.length ≤ 50 := by omega
    go_enter Tryd.func3, Tryd.ntmps3
    go_wp2
    clear hsz h50
    go_loopw [0, 5] (fun k i wr => NxRel m w k i wr) (fun _ i _ => m - (intOf i).toNat)
    case atStart => exact ⟨l, 0, rfl, rfl, hl50, Nat.zero_le _, Below.refl _ _⟩
    case round =>
      obtain ⟨l, j, rfl, rfl, hl5, hj, hb⟩ := hrel
      by_cases hlt : j < m
      · by_cases h0 : cutN l = 0
        · have H0 := Lib.hid h0
          have hsz : (bs l).size = l.length := bs_size l
          clear h0
          go_wp2_with fail
          refine (next_none l (by omega) H0.out wr).mono ?_
          rintro e w1 ⟨rfl, h1⟩
          have hb1 := hb.trans (h1.mono hb.size)
          go_wp2
          go_loop [8] (fun q => ByteRel l.length q) (fun q => l.length - (intOf q).toNat)
          case atStart => exact ⟨0, Nat.zero_le _, rfl⟩
          case round =>
            obtain ⟨q, hq, rfl⟩ := hrel
            by_cases hql : q < l.length
            · have hidx := run_index_bs (P := Tryd.prog) 9 Tryd.underlying9 l q hql
              rw [all_255 H0.out q hql] at hidx
              have h255 : (((255 : UInt8).toNat : Nat) : Int) = 255 := rfl
              rw [h255] at hidx
              clear h255
              go_wp2
              go_round
              case rel => exact ⟨q + 1, by omega, by go_num⟩
              case measure => simp [intOf]; omega
            · go_wp2_with fail
              refine (awake_any _ (Hm.below hb1)).mono ?_
              rintro e w2 ⟨rfl, h2⟩
              go_wp2
              go_ret
              exact ⟨rfl, hb1.trans (h2.mono hb1.size)⟩
        · have H0 := Lib.hid h0
          clear h0
          have hsz : (bs l).size = l.length := bs_size l
          have hnl := nextL_len H0.out
          have hcl := cutN_le l
          obtain ⟨l2, HL⟩ : ∃ l2, Hid (nextL l = l2) := ⟨_, rfl⟩
          have hab := next_above H0.out
          have hn2 := next_some l (by omega) H0.out wr
          rw [HL.out] at hab hn2 hnl
          have hsz2 : (bs l2).size = l2.length := bs_size l2
          have hle : (Op.bytesLess (bs l2).toList (bs l).toList || (bs l2).toList == (bs l).toList) = false := by
            rw [bs_list, bs_list, less_asym hab, less_ne hab]; rfl
          have hlen0 : 0 < l2.length := by have := H0.out; omega
          have hlen1 : l2.length ≤ l.length := by omega
          have Hn2 := Lib.hid hn2
          clear hab hn2 hnl hcl
          obtain ⟨y, HY⟩ : ∃ y, Hid (bs l2 = y) := ⟨_, rfl⟩
          have Hn3 := Lib.hid Hn2.out
          rw [HY.out] at hsz2 hle Hn3
          have hd1 : decide (l.length < l2.length) = false := decide_eq_false (by omega)
          have hd2 : ((l2.length : Int) == 0) = false := by simp; intro e; rw [e] at hlen0; simp at hlen0
          clear Hn2
          go_wp2_with fail
          refine Hn3.out.mono ?_
          rintro e w1 ⟨rfl, h1⟩
          have hb1 := hb.trans (h1.mono hb.size)
          clear Hn3
          go_wp2
          go_roundw
          case rel => exact ⟨l2, j + 1, by rw [HY.out], by go_num, by omega, by omega, hb1⟩
          case measure => simp [intOf]; omega
      · go_wp2_with fail
        refine (awake_any _ (Hm.below hb)).mono ?_
        rintro e w1 ⟨rfl, h1⟩
        go_wp2
        go_ret
        exact ⟨rfl, hb.trans (h1.mono hb.size)⟩
end Go.Proofs.YtiajmjmneodfaaaDoor
