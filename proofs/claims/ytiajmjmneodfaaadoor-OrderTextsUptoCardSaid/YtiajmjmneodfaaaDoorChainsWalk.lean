/- OrderChains answers true: the walk. The slices are read as lists of texts; the library's variable internal/bytealg.MaxLen holds some int. -/
import Derived.Test.YtiajmjmneodfaaaDoorChain
import Derived.Test.YtiajmjmneodfaaaDoorTake
import Derived.Test.YtiajmjmneodfaaaDoorAwake
import Derived.Deep.QuietTactic
import Derived.BigQuiet
import Derived.SliceStrings
import Derived.WideShapes
namespace Go.Proofs.YtiajmjmneodfaaaDoor
open Go.RowKit Fl

/-- A slice of texts that came in, by its elements. -/
def Strs (w : World) (a : Option Addr) (ls : List (List UInt8)) : Prop :=
  ls.length ≤ maxLen ∧ ∀ i, i < ls.length → ∃ b off, a = some ⟨b, off, none⟩ ∧ b < w.heap.size ∧ w.cell? ⟨b, off + i, none⟩ = some (.string (bs (ls.getD i [])))

theorem open_texts {H : Type} {enc : TypeId × Value → H} {W : World} {a : Option Addr} {n c : Nat} {d : DataW H} {ps : List MemPlace}
    (h : DataW.Trod enc Tryd.prog W 0 (fun _ => true) true 27 (.slice a n c) d ps) : ∃ ls : List (List UInt8), ls.length = n ∧ Strs W a ls := by
  obtain ⟨fuel, hf⟩ := h
  rcases ChangeShapes.open_strings Tryd.underlying27 Tryd.underlying9 (by kernel_rfl) hf with ⟨hcs, _⟩ | ⟨x, len, cap, ss, hcs, _, hl, hm, hz, _, hcell, _⟩
  · simp [Value.cells] at hcs
    obtain ⟨rfl, rfl, rfl⟩ := hcs
    exact ⟨[], rfl, Nat.zero_le _, fun i hi => absurd hi (by simp)⟩
  · simp [Value.cells] at hcs
    obtain ⟨rfl, rfl, rfl⟩ := hcs
    simp only [if_true] at hz
    refine ⟨(ss.take n).map fun s => s.data.toList, by simp; omega, by simp; omega, fun i hi => ?_⟩
    have hi' : i < n := by simp at hi; omega
    obtain ⟨b, off, spot⟩ := x
    have hspot : spot = none := by simpa [Addr.add] using World.cell?_spot (hcell 0 (by omega))
    subst hspot
    have hci := hcell i (by omega)
    have e : (⟨b, off, none⟩ : Addr).add i = ⟨b, off + i, none⟩ := by
      by_cases h0 : i = 0
      · subst h0; simp [Addr.add]
      · simp [Addr.add, h0]
    rw [e] at hci
    refine ⟨b, off, rfl, World.block_lt_of_cell? W _ hci, ?_⟩
    rw [hci]
    have e2 : ((ss.take n).map fun s => s.data.toList).getD i [] = (ss.getD i ByteArray.empty).data.toList := by
      have : i < ss.length := by omega
      simp [List.getD, hi', this]
    rw [e2, ← bs_of]

theorem take_get (ls : List (List UInt8)) (k : Nat) (h : k < ls.length) : ls.take (k + 1) = ls.take k ++ [ls.getD k []] := by
  rw [List.take_succ_eq_append_getElem h]; simp [List.getD, h]
theorem drop_get (ls : List (List UInt8)) (k : Nat) (h : k < ls.length) : ls.drop k = ls.getD k [] :: ls.drop (k + 1) := by
  rw [List.drop_eq_getElem_cons h]; simp [List.getD, h]

/-- the elements that count: the first eight -/
theorem strs_take {w : World} {a : Option Addr} {ls : List (List UInt8)} (h : Strs w a ls) : ∃ A : List (List UInt8), A.length ≤ 8 ∧ min ((ls.length : Nat) : Int) 8 = ((A.length : Nat) : Int) ∧
    ∀ i, i < A.length → ∃ b off, a = some ⟨b, off, none⟩ ∧ b < w.heap.size ∧ w.cell? ⟨b, off + i, none⟩ = some (.string (bs (A.getD i []))) := by
  refine ⟨ls.take 8, by simp; omega, by simp; omega, fun i hi => ?_⟩
  have hi' : i < 8 ∧ i < ls.length := by simp at hi; omega
  have := h.2 i hi'.2
  have e : (ls.take 8).getD i [] = ls.getD i [] := by simp [List.getD, hi'.1]
  rw [e]; exact this

def Cells (w : World) (a : Option Addr) (A : List (List UInt8)) : Prop := ∀ i, i < A.length → ∃ b off, a = some ⟨b, off, none⟩ ∧ b < w.heap.size ∧ w.cell? ⟨b, off + i, none⟩ = some (.string (bs (A.getD i [])))

/-- what is gathered, and the counter -/
def ChRel (A : List (List UInt8)) (W : World) (x i : Value) (wr : World) : Prop :=
  ∃ k : Nat, k ≤ A.length ∧ i = .int .i64 k ∧ x = .string (bs (chainL (A.take k))) ∧ (chainL (A.take k)).length ≤ 402 * k ∧ Below W.heap.size W wr

theorem chain_step (A : List (List UInt8)) (k : Nat) (h : k < A.length) : chainL (A.take (k + 1)) = chainL (A.take k) ++ textL (A.getD k []) := by
  rw [take_get A k h, chainL_append]
  show _ ++ (textL _ ++ []) = _
  rw [List.append_nil]

/-- how they stand so far, and the counter -/
def CmpRel (A B : List (List UInt8)) (W : World) (c i : Value) (wr : World) : Prop :=
  ∃ (k : Nat) (z : Int), k ≤ 9 ∧ i = .int .i64 k ∧ c = .int .i64 z ∧ ((z = 0 ∧ k ≤ 8 ∧ cmpL (A.drop k) (B.drop k) = cmpL A B) ∨ (z = cmpL A B ∧ (z = -1 ∨ z = 1))) ∧ Below W.heap.size W wr
/-- what is left, and the counter -/
def LeftRel (A : List (List UInt8)) (W : World) (r i : Value) (wr : World) : Prop :=
  ∃ k : Nat, k ≤ A.length ∧ i = .int .i64 k ∧ r = .string (bs (chainL (A.drop k))) ∧ Below W.heap.size W wr

theorem chain_left (A : List (List UInt8)) (k : Nat) (h : k < A.length) : chainL (A.drop k) = textL (A.getD k []) ++ chainL (A.drop (k + 1)) := by
  rw [drop_get A k h]; rfl
theorem chain_left_len (A : List (List UInt8)) (k : Nat) : (chainL (A.drop k)).length ≤ (chainL A).length := by
  have : chainL A = chainL (A.take k) ++ chainL (A.drop k) := by rw [← chainL_append, List.take_append_drop]
  rw [this]; simp

theorem take_text (l r : List UInt8) (h : (textL l ++ r).length ≤ 140737488355327) (w : World) :
    Calls Tryd.prog 14 #[.string (bs (textL l ++ r))] w fun e w' => e = .returned (.tuple #[.string (bs l), .string (bs r), .int .i64 0]) ∧ Below w.heap.size w w' := by
  refine (take_any (textL l ++ r) h w).mono ?_
  rintro e w' ⟨rfl, hb⟩
  rw [takeG_text]
  exact ⟨rfl, hb⟩

theorem below_drewN {B : Nat} {a w : World} (h : Below B a w) : ∀ n : Nat, Below B a (w.drewN n) := fun _ => ⟨h.os, h.tape, h.output, h.size, h.block⟩

set_option maxRecDepth 100000 in
set_option maxHeartbeats 6400000 in
theorem chains_walk (a1 : Option Addr) (cap1 : Nat) (ls1 : List (List UInt8)) (a2 : Option Addr) (cap2 : Nat) (ls2 : List (List UInt8)) (w : World) (hs1 : Strs w a1 ls1) (hs2 : Strs w a2 ls2) (hm : MaxIs w) :
    Calls Tryd.prog 5 #[.slice a1 ls1.length cap1, .slice a2 ls2.length cap2] w (True1 w) := by
  have hlen1 := hs1.1
  have hlen2 := hs2.1
  obtain ⟨A, hA8, hmin1, hc1⟩ := strs_take hs1
  obtain ⟨B, hB8, hmin2, hc2⟩ := strs_take hs2
  unfold maxLen at hlen1 hlen2
  have H1 : Hid (Cells w a1 A) := Lib.hid hc1
  have H2 : Hid (Cells w a2 B) := Lib.hid hc2
  have Hm := hm
  clear hc1 hc2 hm hs1 hs2
  go_enter Tryd.func5, Tryd.ntmps5
  go_wp2
  go_loopw [5, 9] (fun x i wr => ChRel A w x i wr) (fun _ i _ => A.length - (intOf i).toNat)
  case atStart => exact ⟨0, Nat.zero_le _, rfl, rfl, Nat.zero_le _, Below.refl _ _⟩
  case round =>
    obtain ⟨k, hk, rfl, rfl, hxl, hb⟩ := hrel
    by_cases hlt : k < A.length
    · obtain ⟨blk, off, rfl, hbk, hcell0⟩ := H1.out k hlt
      have hcell := (hb.cell (p := ⟨blk, off + k, none⟩) hbk).trans hcell0
      have Hst := Lib.hid (chain_step A k hlt)
      have htl := textL_len (A.getD k [])
      clear hcell0 hbk
      obtain ⟨l, HL⟩ : ∃ l, Hid (A.getD k [] = l) := ⟨_, rfl⟩
      obtain ⟨X, HX⟩ : ∃ X, Hid (chainL (A.take k) = X) := ⟨_, rfl⟩
      rw [HL.out] at hcell htl
      rw [HX.out] at hxl
      rw [HX.out]
      have hsl : (bs l).size = l.length := bs_size l
      by_cases h200 : 200 < l.length
      · have hd : decide (200 < (l.length : Int)) = true := decide_eq_true (by omega)
        go_wp2_with fail
        refine (awake_any _ (Hm.below hb)).mono ?_
        rintro e w1 ⟨rfl, h1⟩
        go_wp2
        go_ret
        exact ⟨rfl, hb.trans (h1.mono hb.size)⟩
      · have hd : decide (200 < (l.length : Int)) = false := decide_eq_false (by omega)
        have hcat : ∀ w, (Op.stringOp .add (bs X) (bs (textL l))).run Tryd.prog w = .ok (.string (bs (X ++ textL l))) w := fun w => by
          rw [run_string_add_sum w _ _ (by simp [bs_size]; omega), bs_add]
        go_wp2_with fail
        refine (text_any l (by omega) wr (Hm.below hb)).mono ?_
        rintro e w1 ⟨rfl, h1⟩
        have hb1 := hb.trans (h1.mono hb.size)
        go_wp2
        go_roundw
        case rel => exact ⟨k + 1, by omega, by go_num, by rw [Hst.out, HX.out, HL.out], by rw [Hst.out, HX.out, HL.out]; simp; omega, hb1⟩
        case measure => simp [intOf]; omega
    · obtain rfl : k = A.length := by omega
      rw [List.take_length] at hxl ⊢
      clear hlt hk
      have hxl8 : (chainL A).length ≤ 3216 := by omega
      obtain ⟨X, HX⟩ : ∃ X, Hid (chainL A = X) := ⟨_, rfl⟩
      rw [HX.out] at hxl8 ⊢
      clear hxl
      go_wp2
      go_loopw [6, 10] (fun x i wr => ChRel B w x i wr) (fun _ i _ => B.length - (intOf i).toNat)
      case atStart => exact ⟨0, Nat.zero_le _, rfl, rfl, Nat.zero_le _, hb⟩
      case round =>
        rename_i wr0
        obtain ⟨k, hk, rfl, rfl, hyl, hb⟩ := hrel
        by_cases hlt : k < B.length
        · obtain ⟨blk, off, rfl, hbk, hcell0⟩ := H2.out k hlt
          have hcell := (hb.cell (p := ⟨blk, off + k, none⟩) hbk).trans hcell0
          have Hst := Lib.hid (chain_step B k hlt)
          have htl := textL_len (B.getD k [])
          clear hcell0 hbk
          obtain ⟨l, HL⟩ : ∃ l, Hid (B.getD k [] = l) := ⟨_, rfl⟩
          obtain ⟨Y, HY⟩ : ∃ Y, Hid (chainL (B.take k) = Y) := ⟨_, rfl⟩
          rw [HL.out] at hcell htl
          rw [HY.out] at hyl
          rw [HY.out]
          have hsl : (bs l).size = l.length := bs_size l
          by_cases h200 : 200 < l.length
          · have hd : decide (200 < (l.length : Int)) = true := decide_eq_true (by omega)
            go_wp2_with fail
            refine (awake_any _ (Hm.below hb)).mono ?_
            rintro e w1 ⟨rfl, h1⟩
            go_wp2
            go_ret
            exact ⟨rfl, hb.trans (h1.mono hb.size)⟩
          · have hd : decide (200 < (l.length : Int)) = false := decide_eq_false (by omega)
            have hcat : ∀ w, (Op.stringOp .add (bs Y) (bs (textL l))).run Tryd.prog w = .ok (.string (bs (Y ++ textL l))) w := fun w => by
              rw [run_string_add_sum w _ _ (by simp [bs_size]; omega), bs_add]
            go_wp2_with fail
            refine (text_any l (by omega) _ (Hm.below hb)).mono ?_
            rintro e w1 ⟨rfl, h1⟩
            have hb1 := hb.trans (h1.mono hb.size)
            go_wp2
            go_roundw
            case rel => exact ⟨k + 1, by omega, by go_num, by rw [Hst.out, HY.out, HL.out], by rw [Hst.out, HY.out, HL.out]; simp; omega, hb1⟩
            case measure => simp [intOf]; omega
        · obtain rfl : k = B.length := by omega
          rw [List.take_length] at hyl ⊢
          clear hlt hk
          have hyl8 : (chainL B).length ≤ 3216 := by omega
          obtain ⟨Y, HY⟩ : ∃ Y, Hid (chainL B = Y) := ⟨_, rfl⟩
          rw [HY.out] at hyl8 ⊢
          clear hyl
          go_wp2
          go_loopw [11, 12] (fun c i wr => CmpRel A B w c i wr) (fun _ i _ => 20 - (intOf i).toNat)
          case atStart => exact ⟨0, 0, by omega, rfl, rfl, .inl ⟨rfl, by omega, by rw [List.drop_zero, List.drop_zero]⟩, hb⟩
          case round =>
            obtain ⟨k, z, hk9, rfl, rfl, hz, hb⟩ := hrel
            rcases hz with ⟨rfl, hk8, hdrop⟩ | ⟨hzc, hz⟩
            · have Hdrop := Lib.hid hdrop
              clear hdrop
              by_cases hA : k < A.length
              · have dA : decide (k < A.length) = true := decide_eq_true hA
                have dA2 : decide (A.length ≤ k) = false := decide_eq_false (by omega)
                by_cases hB : k < B.length
                · have dB : decide (k < B.length) = true := decide_eq_true hB
                  have dB2 : decide (B.length ≤ k) = false := decide_eq_false (by omega)
                  obtain ⟨blk, off, rfl, hbk, hcell0⟩ := H1.out k hA
                  obtain ⟨blk2, off2, rfl, hbk2, hcell20⟩ := H2.out k hB
                  have hcell := (hb.cell (p := ⟨blk, off + k, none⟩) hbk).trans hcell0
                  have hcell2 := (hb.cell (p := ⟨blk2, off2 + k, none⟩) hbk2).trans hcell20
                  have hdA := drop_get A k hA
                  have hdB := drop_get B k hB
                  obtain ⟨x, Hx⟩ : ∃ x, Hid (A.getD k [] = x) := ⟨_, rfl⟩
                  obtain ⟨y, Hy⟩ : ∃ y, Hid (B.getD k [] = y) := ⟨_, rfl⟩
                  rw [Hx.out] at hcell hdA
                  rw [Hy.out] at hcell2 hdB
                  have HdA := Lib.hid hdA
                  have HdB := Lib.hid hdB
                  have hless : Op.bytesLess (bs x).toList (bs y).toList = Op.bytesLess x y := by rw [bs_list, bs_list]
                  have heq : ((bs x).toList == (bs y).toList) = (x == y) := by rw [bs_list, bs_list]
                  have hk81 : k + 1 ≤ 8 := by omega
                  have hk1 : k < ls1.length := by omega
                  have hk2 : k < ls2.length := by omega
                  have hk1i : (k : Int) < (ls1.length : Int) := by omega
                  have hk2i : (k : Int) < (ls2.length : Int) := by omega
                  clear hcell0 hcell20 hbk hbk2 hdA hdB hA hB
                  by_cases hxy : x = y
                  · subst hxy
                    clear hless heq
                    have hless : Op.bytesLess (bs x).toList (bs x).toList = false := less_self _
                    have hcon : Hid (cmpL (A.drop (k + 1)) (B.drop (k + 1)) = cmpL A B) := Lib.hid (by rw [← Hdrop.out, HdA.out, HdB.out, cmpL_same])
                    go_wp2
                    go_quiet (fail)
                    go_wp2
                    generalize hw2 : World.drewN _ nq = w2 at *
                    have hb2 : Below w.heap.size w w2 := by rw [← hw2]; exact below_drewN hb nq
                    have hcellb : w2.cell? ⟨blk, off + k, none⟩ = some (.string (bs x)) := by rw [← hw2]; exact hcell
                    have hcellb2 : w2.cell? ⟨blk2, off2 + k, none⟩ = some (.string (bs x)) := by rw [← hw2]; exact hcell2
                    clear hw2 hcell hcell2
                    go_quiet (fail)
                    go_wp2
                    go_roundw
                    case rel => exact ⟨k + 1, 0, by omega, by go_num, rfl, .inl ⟨rfl, by omega, hcon.out⟩, below_drewN hb2 _⟩
                    case measure => simp [intOf]; omega
                  · by_cases hl : Op.bytesLess x y = true
                    · rw [hl] at hless
                      have hcon : Hid (cmpL A B = -1) := Lib.hid (by rw [← Hdrop.out, HdA.out, HdB.out, cmpL_less hl])
                      clear hl hxy heq
                      go_wp2
                      go_quiet (fail)
                      go_wp2
                      go_roundw
                      case rel => exact ⟨k + 1, -1, by omega, by go_num, rfl, .inr ⟨hcon.out.symm, .inl rfl⟩, below_drewN hb _⟩
                      case measure => simp [intOf]; omega
                    · have hl2 : Op.bytesLess x y = false := by simpa using hl
                      have hm2 := less_total hxy hl2
                      have hxy2 : (x == y) = false := by simpa using hxy
                      rw [hl2] at hless
                      rw [hxy2] at heq
                      have hcon : Hid (cmpL A B = 1) := Lib.hid (by rw [← Hdrop.out, HdA.out, HdB.out, cmpL_more hm2])
                      clear hl hxy hl2 hm2 hxy2
                      go_wp2
                      go_quiet (fail)
                      go_wp2
                      generalize hw2 : World.drewN _ nq = w2 at *
                      have hb2 : Below w.heap.size w w2 := by rw [← hw2]; exact below_drewN hb nq
                      have hcellb : w2.cell? ⟨blk, off + k, none⟩ = some (.string (bs x)) := by rw [← hw2]; exact hcell
                      have hcellb2 : w2.cell? ⟨blk2, off2 + k, none⟩ = some (.string (bs y)) := by rw [← hw2]; exact hcell2
                      clear hw2 hcell hcell2
                      go_quiet (fail)
                      go_wp2
                      go_roundw
                      case rel => exact ⟨k + 1, 1, by omega, by go_num, rfl, .inr ⟨hcon.out.symm, .inr rfl⟩, below_drewN hb2 _⟩
                      case measure => simp [intOf]; omega
                · have dB : decide (k < B.length) = false := decide_eq_false hB
                  have dB2 : decide (B.length ≤ k) = true := decide_eq_true (by omega)
                  have hcon : Hid (cmpL A B = 1) := Lib.hid (by rw [← Hdrop.out, drop_get A k hA, List.drop_eq_nil_of_le (by omega : B.length ≤ k)]; rfl)
                  clear hA hB
                  go_wp2
                  go_roundw
                  case rel => exact ⟨k + 1, 1, by omega, by go_num, rfl, .inr ⟨hcon.out.symm, .inr rfl⟩, hb⟩
                  case measure => simp [intOf]; omega
              · have dA : decide (k < A.length) = false := decide_eq_false hA
                have dA2 : decide (A.length ≤ k) = true := decide_eq_true (by omega)
                by_cases hB : k < B.length
                · have dB : decide (k < B.length) = true := decide_eq_true hB
                  have hcon : Hid (cmpL A B = -1) := Lib.hid (by rw [← Hdrop.out, drop_get B k hB, List.drop_eq_nil_of_le (by omega : A.length ≤ k)]; rfl)
                  clear hA hB
                  go_wp2
                  go_roundw
                  case rel => exact ⟨k + 1, -1, by omega, by go_num, rfl, .inr ⟨hcon.out.symm, .inl rfl⟩, hb⟩
                  case measure => simp [intOf]; omega
                · have dB : decide (k < B.length) = false := decide_eq_false hB
                  have hcon : cmpL A B = 0 := by rw [← Hdrop.out, List.drop_eq_nil_of_le (by omega : A.length ≤ k), List.drop_eq_nil_of_le (by omega : B.length ≤ k)]; rfl
                  have hcc3 := chain_zero hcon
                  rw [HX.out, HY.out] at hcc3
                  have hp : Op.bytesLess (bs X).toList (bs Y).toList = false := by rw [bs_list, bs_list]; exact hcc3.1
                  have hq : ((bs X).toList == (bs Y).toList) = true := by rw [bs_list, bs_list]; exact hcc3.2
                  clear hcc3 hA hB hcon
                  go_wp2
                  go_loopw [13, 14] (fun r i wr => LeftRel A w r i wr) (fun _ i _ => A.length - (intOf i).toNat)
                  case atStart => exact ⟨0, Nat.zero_le _, rfl, by rw [List.drop_zero, HX.out], hb⟩
                  case round =>
                    obtain ⟨q, hq4, rfl, rfl, hb⟩ := hrel
                    by_cases hlq : q < A.length
                    · obtain ⟨blk, off, rfl, hbk, hcell0⟩ := H1.out q hlq
                      have hcell := (hb.cell (p := ⟨blk, off + q, none⟩) hbk).trans hcell0
                      have hR := chain_left_len A q
                      rw [HX.out] at hR
                      rw [chain_left A q hlq] at hR ⊢
                      obtain ⟨l, HL⟩ : ∃ l, Hid (A.getD q [] = l) := ⟨_, rfl⟩
                      obtain ⟨R, HR⟩ : ∃ R, Hid (chainL (A.drop (q + 1)) = R) := ⟨_, rfl⟩
                      rw [HL.out, HR.out] at hR
                      rw [HL.out] at hcell
                      rw [HL.out, HR.out]
                      clear hcell0 hbk
                      go_wp2_with fail
                      refine (take_text l R (by omega) _).mono ?_
                      rintro e w1 ⟨rfl, h1⟩
                      have hb1 := hb.trans (h1.mono hb.size)
                      have hcell1 := (h1.cell (p := ⟨blk, off + q, none⟩) (World.block_lt_of_cell? _ _ hcell)).trans hcell
                      clear hcell
                      go_wp2
                      go_roundw
                      case rel => exact ⟨q + 1, by omega, by go_num, by rw [HR.out], hb1⟩
                      case measure => simp [intOf]; omega
                    · obtain rfl : q = A.length := by omega
                      rw [List.drop_length]
                      have hem : (bs (chainL [])).toList.isEmpty = true := by rw [bs_list]; rfl
                      go_wp2_with fail
                      refine (awake_any _ (Hm.below hb)).mono ?_
                      rintro e w1 ⟨rfl, h1⟩
                      go_wp2
                      go_ret
                      exact ⟨rfl, hb.trans (h1.mono hb.size)⟩
            · rcases hz with rfl | rfl
              · have hcc3 := chain_less hzc.symm
                rw [HX.out, HY.out] at hcc3
                have hp : Op.bytesLess (bs X).toList (bs Y).toList = true := by rw [bs_list, bs_list]; exact hcc3.1
                have hq : ((bs X).toList == (bs Y).toList) = false := by rw [bs_list, bs_list]; exact hcc3.2
                clear hcc3 hzc
                go_wp2
                go_loopw [13, 14] (fun r i wr => LeftRel A w r i wr) (fun _ i _ => A.length - (intOf i).toNat)
                case atStart => exact ⟨0, Nat.zero_le _, rfl, by rw [List.drop_zero, HX.out], hb⟩
                case round =>
                  obtain ⟨q, hq4, rfl, rfl, hb⟩ := hrel
                  by_cases hlq : q < A.length
                  · obtain ⟨blk, off, rfl, hbk, hcell0⟩ := H1.out q hlq
                    have hcell := (hb.cell (p := ⟨blk, off + q, none⟩) hbk).trans hcell0
                    have hR := chain_left_len A q
                    rw [HX.out] at hR
                    rw [chain_left A q hlq] at hR ⊢
                    obtain ⟨l, HL⟩ : ∃ l, Hid (A.getD q [] = l) := ⟨_, rfl⟩
                    obtain ⟨R, HR⟩ : ∃ R, Hid (chainL (A.drop (q + 1)) = R) := ⟨_, rfl⟩
                    rw [HL.out, HR.out] at hR
                    rw [HL.out] at hcell
                    rw [HL.out, HR.out]
                    clear hcell0 hbk
                    go_wp2_with fail
                    refine (take_text l R (by omega) _).mono ?_
                    rintro e w1 ⟨rfl, h1⟩
                    have hb1 := hb.trans (h1.mono hb.size)
                    have hcell1 := (h1.cell (p := ⟨blk, off + q, none⟩) (World.block_lt_of_cell? _ _ hcell)).trans hcell
                    clear hcell
                    go_wp2
                    go_roundw
                    case rel => exact ⟨q + 1, by omega, by go_num, by rw [HR.out], hb1⟩
                    case measure => simp [intOf]; omega
                  · obtain rfl : q = A.length := by omega
                    rw [List.drop_length]
                    have hem : (bs (chainL [])).toList.isEmpty = true := by rw [bs_list]; rfl
                    go_wp2_with fail
                    refine (awake_any _ (Hm.below hb)).mono ?_
                    rintro e w1 ⟨rfl, h1⟩
                    go_wp2
                    go_ret
                    exact ⟨rfl, hb.trans (h1.mono hb.size)⟩
              · have hcc3 := chain_more hzc.symm
                rw [HX.out, HY.out] at hcc3
                have hp : Op.bytesLess (bs X).toList (bs Y).toList = false := by rw [bs_list, bs_list]; exact hcc3.1
                have hq : ((bs X).toList == (bs Y).toList) = false := by rw [bs_list, bs_list]; exact hcc3.2
                clear hcc3 hzc
                go_wp2
                go_loopw [13, 14] (fun r i wr => LeftRel A w r i wr) (fun _ i _ => A.length - (intOf i).toNat)
                case atStart => exact ⟨0, Nat.zero_le _, rfl, by rw [List.drop_zero, HX.out], hb⟩
                case round =>
                  obtain ⟨q, hq4, rfl, rfl, hb⟩ := hrel
                  by_cases hlq : q < A.length
                  · obtain ⟨blk, off, rfl, hbk, hcell0⟩ := H1.out q hlq
                    have hcell := (hb.cell (p := ⟨blk, off + q, none⟩) hbk).trans hcell0
                    have hR := chain_left_len A q
                    rw [HX.out] at hR
                    rw [chain_left A q hlq] at hR ⊢
                    obtain ⟨l, HL⟩ : ∃ l, Hid (A.getD q [] = l) := ⟨_, rfl⟩
                    obtain ⟨R, HR⟩ : ∃ R, Hid (chainL (A.drop (q + 1)) = R) := ⟨_, rfl⟩
                    rw [HL.out, HR.out] at hR
                    rw [HL.out] at hcell
                    rw [HL.out, HR.out]
                    clear hcell0 hbk
                    go_wp2_with fail
                    refine (take_text l R (by omega) _).mono ?_
                    rintro e w1 ⟨rfl, h1⟩
                    have hb1 := hb.trans (h1.mono hb.size)
                    have hcell1 := (h1.cell (p := ⟨blk, off + q, none⟩) (World.block_lt_of_cell? _ _ hcell)).trans hcell
                    clear hcell
                    go_wp2
                    go_roundw
                    case rel => exact ⟨q + 1, by omega, by go_num, by rw [HR.out], hb1⟩
                    case measure => simp [intOf]; omega
                  · obtain rfl : q = A.length := by omega
                    rw [List.drop_length]
                    have hem : (bs (chainL [])).toList.isEmpty = true := by rw [bs_list]; rfl
                    go_wp2_with fail
                    refine (awake_any _ (Hm.below hb)).mono ?_
                    rintro e w1 ⟨rfl, h1⟩
                    go_wp2
                    go_ret
                    exact ⟨rfl, hb.trans (h1.mono hb.size)⟩
end Go.Proofs.YtiajmjmneodfaaaDoor
