/- slices.Clone and slices.Clip of a row of floats; how many numbers are below (calc.Rank); whether two are the same number (num.Same). -/
import Derived.Test.YtohkjjmknpbdaaaInsert
import Derived.Test.YtohkjjmknpbdaaaTellsWalk
namespace Go.Proofs.Ytohkjjmknpbdaaa
open Go.RowKit Fl

theorem run_append_new (w : World) (B ty : Nat) (i : TypeInfo) (hi : Try.prog.info? 24 = some i) (hz : i.zero = some (.float .f64 0)) (hsize : i.size = 1) (hby : i.bytes = 8)
    (v0 : Value) (h0 : Own w B v0 []) (v : Value) (xs : List Nat) (hne : xs ≠ []) (hF : Fsl w v xs) (h63 : xs.length ≤ 1000) (hbase : B ≤ w.heap.size) :
    ∃ g cap w', (Builtin.append_ #[23, 23] ty #[v0, v]).run Try.prog w = .ok (.slice (some ⟨g, 0, none⟩) xs.length cap) w' ∧ Sr w' B g cap xs ∧ xs.length ≤ cap ∧ cap ≤ maxLen ∧ w.grownBy w' v0.ownBlock := by
  obtain ⟨_, _, ⟨h, _⟩ | ⟨hx, b, off, c, rfl, hc⟩⟩ := hF
  · exact absurd h hne
  · have hnews : ∀ j u, (xs.map (Value.float .f64))[j]? = some u → w.cell? ((⟨b, off, none⟩ : Addr).add j) = some u := by
      intro j u hj
      have hjl : j < xs.length := by
        have := (List.getElem?_eq_some_iff.1 hj).1
        simpa using this
      rw [Go.WideShapes.add_plain, hc j hjl]
      simp [List.getElem?_eq_getElem hjl] at hj
      simp [List.getD, hjl, hj]
    obtain ⟨v', w', hr, ho, hg, _⟩ := run_append_own (P := Try.prog) w B 23 ty 24 i (.float .f64 0) 1 8 Try.underlying23 hi hz hsize hby rfl (by decide) v0 0 [] h0 ⟨b, off, none⟩ xs.length c (xs.map (Value.float .f64)) (by simp) hnews (by intro u hu; obtain ⟨x, _, rfl⟩ := List.mem_map.1 hu; rfl) (by unfold maxLen; omega) (by omega) hbase
    have ho' : Own w' B v' xs := by
      unfold Own
      simpa using ho
    have hpos : 0 < xs.length := List.length_pos_iff.2 hne
    rcases ho'.2 with ⟨_, e⟩ | ⟨g, cap, cur, rfl, _, _, g1, g2, _⟩
    · omega
    · exact ⟨g, cap, w', hr, sr_own ho', g1, g2, hg⟩

theorem wpList_append_new {ops : Array Oper} {rest : List Oper} {o : Oper} {a : Act} {Q : Exit → Act → World → Prop} {w : World} (hgd : o.guard = none) (s x : Operand)
    (ho : o.op = .call { callee := .builtin .append, args := #[s, x], argTypes := #[23, 23] })
    (B : Nat) (i : TypeInfo) (hi : Try.prog.info? 24 = some i) (hz : i.zero = some (.float .f64 0)) (hsize : i.size = 1) (hby : i.bytes = 8)
    (v0 : Value) (hs : a.eval s = v0) (hown : Own w B v0 []) (v : Value) (xs : List Nat) (hne : xs ≠ []) (hx : a.eval x = v) (hF : Fsl w v xs)
    (h63 : xs.length ≤ 1000) (hbase : B ≤ w.heap.size)
    (h : ∀ g cap w', Sr w' B g cap xs → xs.length ≤ cap → cap ≤ maxLen → w.grownBy w' v0.ownBlock → wpList Try.prog ops Q rest (a.put o.dst (.slice (some ⟨g, 0, none⟩) xs.length cap)) w') :
    wpList Try.prog ops Q (o :: rest) a w := by
  refine wpList_plain hgd fun _ hK => ?_
  obtain ⟨g, cap, w', hr, h2, h3, h4, h5⟩ := run_append_new w B o.type i hi hz hsize hby v0 hown v xs hne hF h63 hbase
  unfold Oper.wp execOp
  simp only [ho, resolve, invoke, builtin, Sem.run_bind, Sem.run_pure, Result.andThen_ok, List.map_toArray, List.map_cons, List.map_nil, hs, hx, hr]
  exact hK _ _ (h g cap w' h2 h3 h4 h5)

set_option maxHeartbeats 800000 in
theorem clone_some (w : World) (B : Nat) (xs : List Nat) (n : Nat) (hn : xs.length = n) (hx : xs ≠ []) (h900 : n ≤ 900) (b off c : Nat) (hB : B = w.heap.size) (hF : Fsl w (.slice (some ⟨b, off, none⟩) n c) xs) :
    Calls Try.prog 40 #[.slice (some ⟨b, off, none⟩) n c] w fun e w' => ∃ g cap, e = .returned (.slice (some ⟨g, 0, none⟩) n cap) ∧ Sr w' B g cap xs ∧ n ≤ cap ∧ cap ≤ maxLen ∧ Below B w w' := by
  have H := Lib.hid hF
  have Hn := Lib.hid hn
  have HB := Lib.hid hB
  have hnil := fun wx => Lib.run_eql_slice_nil (P := Try.prog) wx 23 24 (some ⟨b, off, none⟩) n c 0 0 Try.underlying23
  have hBle : B ≤ w.heap.size := by omega
  obtain ⟨i0, hi, hq0, hq1, hq2⟩ := info_parts Try.info24
  clear hF hn hB
  go_enter Try.func40, Try.ntmps40
  go_wp2_with (at_builtin; refine wpList_append_new rfl _ _ rfl B i0 hi hq0 hq1 hq2 (.slice (some ⟨w.heap.size, 0, none⟩) 0 0) rfl (World.ownsRow_made w #[] 0 hBle (Nat.zero_le _) rfl) _ xs hx rfl (H.out.later ((Below.refl _ _).alloc (Nat.le_refl _) _)) ?c1 ?c2 ?_)
  case c1 => have := Hn.out; omega
  case c2 => simp; omega
  intro g cap w' hs hc hm hg
  rw [Hn.out]
  rw [Hn.out] at hc
  have Hs := Lib.hid hs
  have Hm := Lib.hid hm
  have Hb : Hid (Below B w w') := Lib.hid (((Below.refl B w).alloc hBle _).grown hg (by simp; omega) (fun k hk => by cases hk; exact hBle))
  clear hs hm hg
  go_wp2
  go_ret
  exact ⟨g, cap, rfl, Hs.out, hc, Hm.out, Hb.out⟩

theorem clip_some (w : World) (g n cap : Nat) (h1 : n ≤ cap) (_h2 : cap ≤ maxLen) (_h3 : n ≤ 900) :
    Calls Try.prog 39 #[.slice (some ⟨g, 0, none⟩) n cap] w fun e w' => e = .returned (.slice (some ⟨g, 0, none⟩) n n) ∧ w = w' := by
  go_enter Try.func39, Try.ntmps39
  go_wp2
  go_ret
  exact ⟨rfl, rfl⟩

theorem same_any (a b : Nat) (ha : a < 18446744073709551616) (hb : b < 18446744073709551616) (w : World) : Calls Try.prog 32 #[.float .f64 a, .float .f64 b] w fun e w' => e = .returned (.bool (decide (code a = code b))) ∧ w = w' := by
  go_enter Try.func32, Try.ntmps32
  go_wp2_with fail
  refine (cmp_any a b ha hb w).mono ?_
  rintro e w' ⟨rfl, rfl⟩
  have hc : ((cmpN (code a) (code b) : Int) = 0) ↔ code a = code b := by unfold cmpN; split <;> (try split) <;> simp <;> omega
  go_wp2
  go_ret
  refine ⟨?_, rfl⟩
  have e2 : (cmpN (code a) (code b) == 0) = decide (code a = code b) := by rw [Bool.eq_iff_iff]; simp [hc]
  simp [e2]

/-- how many are below -/
def rankOf (xs : List Nat) (y : Nat) : Nat := xs.countP fun x => decide (code x < code y)

theorem rankOf_snoc (xs : List Nat) (y k : Nat) (h : k < xs.length) : rankOf (xs.take (k + 1)) y = rankOf (xs.take k) y + if code (xs.getD k 0) < code y then 1 else 0 := by
  unfold rankOf
  rw [take_snoc' xs k h, List.countP_append]
  simp [List.countP_cons]

theorem rankOf_le (xs : List Nat) (y : Nat) : rankOf xs y ≤ xs.length := List.countP_le_length

theorem rank_none (a : Option Addr) (c y : Nat) (w : World) : Calls Try.prog 31 #[.slice a 0 c, .float .f64 y] w fun e w' => e = .returned (.int .i64 0) ∧ w = w' := by
  go_enter Try.func31, Try.ntmps31
  go_wp2
  go_loop [5, 10] (fun s i => s = .int .i64 0 ∧ i = .int .i64 0) (fun _ i => 0)
  case atStart => exact ⟨rfl, rfl⟩
  case round =>
    obtain ⟨rfl, rfl⟩ := hrel
    go_wp2
    go_ret
    exact ⟨rfl, rfl⟩

set_option maxHeartbeats 1600000 in
theorem rank_some (w : World) (b off c n y : Nat) (xs : List Nat) (hn : xs.length = n) (h900 : n ≤ 900) (hy : y < 18446744073709551616) (h64 : W64 xs)
    (hc : ∀ i, i < n → w.cell? ⟨b, off + i, none⟩ = some (.float .f64 (xs.getD i 0))) :
    Calls Try.prog 31 #[.slice (some ⟨b, off, none⟩) n c, .float .f64 y] w fun e w' => e = .returned (.int .i64 (rankOf xs y)) ∧ w = w' := by
  have Hn := Lib.hid hn
  have H64 := Lib.hid h64
  have HC := Lib.hid hc
  clear hn h64 hc
  go_enter Try.func31, Try.ntmps31
  go_wp2
  go_loop [5, 10] (fun s i => ∃ k r : Nat, k ≤ n ∧ r ≤ k ∧ r = rankOf (xs.take k) y ∧ s = .int .i64 r ∧ i = .int .i64 k) (fun _ i => n - (intOf i).toNat)
  case atStart => exact ⟨0, 0, Nat.zero_le _, Nat.le_refl _, rfl, rfl, rfl⟩
  case round =>
    obtain ⟨k, r, hk, hrk, hr, rfl, rfl⟩ := hrel
    by_cases hlt : k < n
    · have hcell := HC.out k hlt
      have hx : xs.getD k 0 < 18446744073709551616 := by
        have hk2 : k < xs.length := by have := Hn.out; omega
        have e : xs.getD k 0 = xs[k] := by simp [List.getD, hk2]
        rw [e]; exact H64.out _ (List.getElem_mem hk2)
      have hs := Lib.hid (rankOf_snoc xs y k (by have := Hn.out; omega))
      rw [← hr] at hs
      have HR := Lib.hid hr
      clear hr
      generalize xs.getD k 0 = x at *
      go_wp2_with fail
      refine (cmp_any x y hx hy _).mono ?_
      rintro e w' ⟨rfl, rfl⟩
      by_cases hxy : code x < code y
      · have hq : cmpN (code x) (code y) < 0 := by unfold cmpN; rw [if_pos hxy]; decide
        rw [if_pos hxy] at hs
        go_wp2
        refine ⟨⟨k + 1, r + 1, by omega, by omega, hs.out.symm, by simp, by simp⟩, by simp only [intOf]; omega⟩
      · have hq : ¬ cmpN (code x) (code y) < 0 := by unfold cmpN; rw [if_neg hxy]; split <;> decide
        rw [if_neg hxy] at hs
        go_wp2
        refine ⟨⟨k + 1, r, by omega, by omega, hs.out.symm, by simp, by simp⟩, by simp only [intOf]; omega⟩
    · have hkn : k = n := by omega
      subst hkn
      have e : r = rankOf xs y := by rw [hr, List.take_of_length_le (by have := Hn.out; omega)]
      go_wp2
      go_ret
      exact ⟨by rw [← e, hr]; rfl, rfl⟩

end Go.Proofs.Ytohkjjmknpbdaaa
