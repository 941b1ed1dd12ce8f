/- order.Score hands back the eight bytes of a number's word, the greatest first: the walk. The bits are below 2^64. -/
import Derived.Test.YtiajmjmneodfaaaDoorBase
import Derived.Test.YtiajmjmneodfaaaDoorNext
import Derived.Handy
namespace Go.Proofs.YtiajmjmneodfaaaDoor
open Go.RowKit Fl

/-- the eight bytes of a word -/
def code8 (n : Nat) : List UInt8 := [UInt8.ofNat (n / 72057594037927936), UInt8.ofNat (n / 281474976710656), UInt8.ofNat (n / 1099511627776), UInt8.ofNat (n / 4294967296), UInt8.ofNat (n / 16777216), UInt8.ofNat (n / 65536), UInt8.ofNat (n / 256), UInt8.ofNat n]

/-- a list of bytes in a row of memory -/
def rowOf (l : List UInt8) : Array Value := (l.map fun b => Value.int .u8 (b.toNat : Int)).toArray

theorem u8_nat (n : Nat) : ((UInt8.ofNat n).toNat : Int) = (n : Int) % 256 := by
  rw [UInt8.toNat_ofNat']
  omega

theorem row8 (n : Nat) (h : n < 18446744073709551616) : rowOf (code8 n) = #[Value.int .u8 ((n : Int) / 72057594037927936), Value.int .u8 ((n : Int) / 281474976710656 % 256),
          Value.int .u8 ((n : Int) / 1099511627776 % 256), Value.int .u8 ((n : Int) / 4294967296 % 256),
          Value.int .u8 ((n : Int) / 16777216 % 256), Value.int .u8 ((n : Int) / 65536 % 256),
          Value.int .u8 ((n : Int) / 256 % 256), Value.int .u8 ((n : Int) % 256)] := by
  have h0 : ((n / 72057594037927936 : Nat) : Int) % 256 = (n : Int) / 72057594037927936 := by omega
  unfold rowOf code8
  simp only [List.map_cons, List.map_nil, u8_nat, h0]
  rfl

theorem row_back (w : World) (l : List UInt8) (c : Nat) : (convert 52 9 (.slice (some ⟨w.heap.size, 0, none⟩) l.length c)).run Tryd.prog (w.alloc (.cells (rowOf l) 5)) = .ok (.string (bs l)) (w.alloc (.cells (rowOf l) 5)) :=
  run_convert_bytes_back _ 52 9 5 ⟨w.heap.size, 0, none⟩ c l Tryd.underlying52 Tryd.underlying5 Tryd.underlying9 (fun i hi => by
    have e : (⟨w.heap.size, 0, none⟩ : Addr).add i = ⟨w.heap.size, i, none⟩ := by
      by_cases h0 : i = 0
      · subst h0; simp [Addr.add]
      · simp [Addr.add, h0]
    rw [e]
    simp [rowOf, hi])

def ScoreEnd (n : Nat) (w : World) (e : Ending) (w' : World) : Prop := e = .returned (.string (bs (code8 n))) ∧ Below w.heap.size w w'

set_option maxHeartbeats 1600000 in
theorem score_any (b : Nat) (hb : b < 18446744073709551616) (w : World) : Calls Tryd.prog 18 #[.float .f64 b] w (ScoreEnd (code b) w) := by
  have hmk : ∀ w, (Instr.makeSlice 52 (.int .i64 8) (.int .i64 8)).run Tryd.prog w = .ok (.slice (some ⟨w.heap.size, 0, none⟩) 8 8) (w.alloc (.cells #[.int .u8 0, .int .u8 0, .int .u8 0, .int .u8 0, .int .u8 0, .int .u8 0, .int .u8 0, .int .u8 0] 5)) := fun _ => by kernel_rfl
  have hcl := code_lt hb
  go_enter Tryd.func18, Tryd.ntmps18
  go_wp2_with fail
  refine (code_any b hb w).mono ?_
  rintro e w' ⟨rfl, rfl⟩
  generalize code b = n at *
  go_wp2
  refine wp_loop_rounds 9 ?_
  iterate 8 (rw [rounds_succ]; go_wp2)
  have hrow := row8 n hcl
  have hback := row_back w (code8 n) 8
  rw [hrow] at hback
  have hsz : (code8 n).length = 8 := rfl
  rw [hsz] at hback
  clear hrow hsz hmk
  have hB : Hid (∀ o, Below w.heap.size w (w.alloc o)) := Lib.hid (fun o => (Below.refl _ _).alloc (Nat.le_refl _) o)
  have hB2 := Lib.hid (hB.out (.cells #[Value.int .u8 ((n : Int) / 72057594037927936), Value.int .u8 ((n : Int) / 281474976710656 % 256),
          Value.int .u8 ((n : Int) / 1099511627776 % 256), Value.int .u8 ((n : Int) / 4294967296 % 256),
          Value.int .u8 ((n : Int) / 16777216 % 256), Value.int .u8 ((n : Int) / 65536 % 256),
          Value.int .u8 ((n : Int) / 256 % 256), Value.int .u8 ((n : Int) % 256)] 5))
  clear hB
  generalize hX : (code8 n) = X at *
  rw [rounds_succ]
  generalize World.alloc w _ = w1 at *
  go_wp2
  go_ret
  subst hX
  exact ⟨rfl, hB2.out⟩
end Go.Proofs.YtiajmjmneodfaaaDoor
