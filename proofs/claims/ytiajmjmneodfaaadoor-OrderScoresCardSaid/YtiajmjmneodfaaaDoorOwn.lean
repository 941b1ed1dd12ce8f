/- Bytes that a call makes by append, and the text of them. The lengths are such that a slice may have. -/
import Derived.Test.YtiajmjmneodfaaaDoorScore
namespace Go.Proofs.YtiajmjmneodfaaaDoor
open Go.RowKit

theorem info5 : (Tryd.prog.info? 5).map (fun i => (i.zero, i.size, i.bytes)) = some (some (.int .u8 0), 1, 1) := by kernel_rfl

def cellsB (l : List UInt8) : List Value := l.map fun b => Value.int .u8 (b.toNat : Int)
theorem cellsB_len (l : List UInt8) : (cellsB l).length = l.length := by simp [cellsB]
theorem cellsB_app (l n : List UInt8) : cellsB (l ++ n) = cellsB l ++ cellsB n := by simp [cellsB]

/-- bytes that the call itself has made -/
def OwnB (w : World) (B : Nat) (v : Value) (l : List UInt8) : Prop := w.ownsRow B 5 1 v l.length (cellsB l)

theorem ownB_nil (w : World) (B : Nat) : OwnB w B (.slice none 0 0) [] := World.ownsRow_nil w B 5 1

theorem wpList_append_bs {ops : Array Oper} {rest : List Oper} {o : Oper} {a : Act} {Q : Exit → Act → World → Prop} {w : World} (hgd : o.guard = none) (s x : Operand)
    (ho : o.op = .call { callee := .builtin .append, args := #[s, x], argTypes := #[52, 52] })
    (B : Nat) (v : Value) (l : List UInt8) (hs : a.eval s = v) (hown : OwnB w B v l) (ad : Addr) (c : Nat) (ns : List UInt8) (hx : a.eval x = .slice (some ad) ns.length c)
    (hy : ∀ j u, (cellsB ns)[j]? = some u → w.cell? (ad.add j) = some u)
    (h63 : l.length + ns.length ≤ 140737488355328) (hbase : B ≤ w.heap.size)
    (h : ∀ v' w', OwnB w' B v' (l ++ ns) → w.grownBy w' v.ownBlock → wpList Tryd.prog ops Q rest (a.put o.dst v') w') :
    wpList Tryd.prog ops Q (o :: rest) a w := by
  obtain ⟨i0, hi, hz0, hz1, hz2⟩ := info_parts info5
  refine wpList_append_own _ hgd s x 52 ho B 5 i0 (.int .u8 0) 1 1 Tryd.underlying52 hi hz0 hz1 hz2 rfl (by decide) v l.length (cellsB l) hs hown ad ns.length c (cellsB ns) hx (by rw [cellsB_len]; omega) hy ?_ (by unfold maxLen; omega) (by omega) hbase ?_
  · intro u hu
    simp [cellsB] at hu
    obtain ⟨b, _, rfl⟩ := hu
    rfl
  · intro v' w' h1 h2 _
    refine h v' w' ?_ h2
    unfold OwnB
    rw [List.length_append, cellsB_app]
    exact h1

theorem ownB_below {w wr w1 : World} {B : Nat} {v : Value} {l : List UInt8} {o : Obj} (hb : Below B w wr) (hB : B ≤ w.heap.size) (hown : OwnB wr B v l) (hgrow : (wr.alloc o).grownBy w1 v.ownBlock) : Below B w w1 := by
  have h0 := hb.size
  exact (hb.alloc (by omega) _).grown hgrow (by simp; omega) (fun k hk => (hown.lt k hk).1)

theorem OwnB.drew {w : World} {B : Nat} {v : Value} {l : List UInt8} (h : OwnB w B v l) : OwnB w.drew B v l := h

/-- the bytes as a text -/
theorem ownB_text {w : World} {B : Nat} {v : Value} {l : List UInt8} (h : OwnB w B v l) : (convert 52 9 v).run Tryd.prog w = .ok (.string (bs l)) w := by
  have h2 := h
  rcases h.2 with ⟨rfl, h0⟩ | ⟨g, cap, cur, rfl, _⟩
  · have : l = [] := List.eq_nil_of_length_eq_zero h0
    subst this
    rw [run_convert_bytes_string (P := Tryd.prog) w 52 9 5 none 0 0 Tryd.underlying52 Tryd.underlying5 Tryd.underlying9]
    simp [Conv.bytesToString, Sem.run_pure, bs]
    rfl
  · exact run_convert_bytes_back w 52 9 5 ⟨g, 0, none⟩ cap l Tryd.underlying52 Tryd.underlying5 Tryd.underlying9 (fun i hi =>
      World.ownsRow.cells h2 (g := g) rfl i (.int .u8 (l[i].toNat : Int)) (by simp [cellsB, hi]))

theorem one_cell (w : World) (b : UInt8) : ∀ j u, (cellsB [b])[j]? = some u → (w.alloc (.cells #[.int .u8 (b.toNat : Int)] 5)).cell? ((⟨w.heap.size, 0, none⟩ : Addr).add j) = some u := by
  intro j u hj
  match j, hj with
  | 0, hj => simp [cellsB] at hj; subst hj; simp [Addr.add]
end Go.Proofs.YtiajmjmneodfaaaDoor
