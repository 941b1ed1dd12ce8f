/- Appending one float to a row that the call owns, told with the row's block: it stays, or it is new. So two rows that grow side by side stay apart. -/
import Derived.Test.YtohkjjmknpbdaaaWholesPlain
namespace Go.Proofs.Ytohkjjmknpbdaaa
open Go.RowKit Fl

theorem run_append_fl (w : World) (B ty : Nat) (i : TypeInfo) (hi : Try.prog.info? 24 = some i) (hz : i.zero = some (.float .f64 0)) (hsize : i.size = 1) (hby : i.bytes = 8)
    (v : Value) (xs : List Nat) (hown : Own w B v xs) (ad : Addr) (c x : Nat) (hx : w.cell? ad = some (.float .f64 x)) (h63 : xs.length ≤ 1000) (hbase : B ≤ w.heap.size) :
    ∃ v' w', (Builtin.append_ #[23, 23] ty #[v, .slice (some ad) 1 c]).run Try.prog w = .ok v' w' ∧ Own w' B v' (xs ++ [x]) ∧ w.grownBy w' v.ownBlock ∧
      (v'.ownBlock = v.ownBlock ∨ v'.ownBlock = some w.heap.size) := by
  have hnews : ∀ j u, [Value.float .f64 x][j]? = some u → w.cell? (ad.add j) = some u := by
    intro j u hj
    match j, hj with
    | 0, hj => simp at hj; subst hj; simpa [Addr.add] using hx
  have h1 : ∀ u ∈ [Value.float .f64 x], u.oneCell' = true := by intro u hu; simp at hu; subst hu; rfl
  obtain ⟨v', w', hr, ho, hg, _⟩ := run_append_own (P := Try.prog) w B 23 ty 24 i (.float .f64 0) 1 8 Try.underlying23 hi hz hsize hby rfl (by decide) v xs.length (xs.map (Value.float .f64)) hown ad 1 c [.float .f64 x] rfl hnews h1 (by unfold maxLen; omega) (by omega) hbase
  refine ⟨v', w', hr, ?_, hg, ?_⟩
  · unfold Own
    rw [List.length_append, List.map_append]
    exact ho
  · have hlen : (xs.map (Value.float .f64)).length = xs.length * i.size := by simp [hsize]
    rcases hown.2 with ⟨rfl, h0⟩ | ⟨g, cap, cur, rfl, _, hgc, hn, hcm, hcs, _⟩
    · have hr2 := run_append_nil (P := Try.prog) w 23 ty 24 i _ Try.underlying23 hi hz ad 1 c [.float .f64 x] (by simp [hsize]) hnews (by omega) (by omega) (by omega)
      rw [hr] at hr2
      injection hr2 with e1 e2
      right; rw [e1]; rfl
    · by_cases hroom : xs.length + 1 ≤ cap
      · have hr2 := run_append_room (P := Try.prog) w 23 ty 24 i Try.underlying23 hi g xs.length cap cur hgc ad 1 c [.float .f64 x] (by simp [hsize]) hnews h1 hroom (by simp [hsize, hcs]; omega)
        rw [hr] at hr2
        injection hr2 with e1 e2
        left; rw [e1]; rfl
      · have holds : ∀ j u, (xs.map (Value.float .f64))[j]? = some u → w.cell? ((⟨g, 0, none⟩ : Addr).add j) = some u := World.ownsRow.cells hown (g := g) rfl
        have hr2 := run_append_grow (P := Try.prog) w 23 ty 24 i _ Try.underlying23 hi hz ⟨g, 0, none⟩ xs.length cap _ hlen holds ad 1 c [.float .f64 x] (by simp [hsize]) hnews (by omega) (by omega) (growslice_fits (by omega) (by rw [hby]; omega))
        rw [hr] at hr2
        injection hr2 with e1 e2
        right; rw [e1]; rfl

theorem wpList_append_fl {ops : Array Oper} {rest : List Oper} {o : Oper} {a : Act} {Q : Exit → Act → World → Prop} {w : World} (hgd : o.guard = none) (s x : Operand)
    (ho : o.op = .call { callee := .builtin .append, args := #[s, x], argTypes := #[23, 23] })
    (B : Nat) (i : TypeInfo) (hi : Try.prog.info? 24 = some i) (hz : i.zero = some (.float .f64 0)) (hsize : i.size = 1) (hby : i.bytes = 8)
    (v : Value) (xs : List Nat) (hs : a.eval s = v) (hown : Own w B v xs) (ad : Addr) (c y : Nat) (hx : a.eval x = .slice (some ad) 1 c) (hy : w.cell? ad = some (.float .f64 y))
    (h63 : xs.length ≤ 1000) (hbase : B ≤ w.heap.size)
    (h : ∀ v' w', Own w' B v' (xs ++ [y]) → w.grownBy w' v.ownBlock → (v'.ownBlock = v.ownBlock ∨ v'.ownBlock = some w.heap.size) → wpList Try.prog ops Q rest (a.put o.dst v') w') :
    wpList Try.prog ops Q (o :: rest) a w := by
  refine wpList_plain hgd fun _ hK => ?_
  obtain ⟨v', w', hr, h2, h3, h4⟩ := run_append_fl w B o.type i hi hz hsize hby v xs hown ad c y hy h63 hbase
  unfold Oper.wp execOp
  simp only [ho, resolve, invoke, builtin, Sem.run_bind, Sem.run_pure, Result.andThen_ok, List.map_toArray, List.map_cons, List.map_nil, hs, hx, hr]
  exact hK _ _ (h v' w' h2 h3 h4)

/-- two rows in two blocks -/
def Apart (v u : Value) : Prop := ∀ g, v.ownBlock = some g → u.ownBlock ≠ some g

theorem Apart.symm' {v u : Value} (h : Apart v u) : Apart u v := fun g hu hv => h g hv hu

theorem app_step {w wr w1 : World} {B : Nat} {v u v' : Value} {xs us : List Nat} {o : Obj} (hb : Below B w wr) (hB : B ≤ w.heap.size) (hv : Own wr B v xs) (hu : Own wr B u us) (hap : Apart v u)
    (hgrow : (wr.alloc o).grownBy w1 v.ownBlock) (hblk : v'.ownBlock = v.ownBlock ∨ v'.ownBlock = some (wr.heap.size + 1)) :
    Own w1 B u us ∧ Apart v' u ∧ Below B w w1 := by
  refine ⟨?_, ?_, ?_⟩
  · refine World.ownsRow.kept (hu.alloc o) hgrow ?_
    cases h : u.ownBlock with
    | none => exact .inl rfl
    | some g => exact .inr (fun e => hap g e.symm h)
  · intro g hg hug
    have hlt := (hu.lt g hug).2
    rcases hblk with e | e
    · exact hap g (e ▸ hg) hug
    · rw [e] at hg
      simp at hg
      omega
  · have h0 := hb.size
    exact (hb.alloc (by omega) _).grown hgrow (by simp; omega) (fun k hk => (hv.lt k hk).1)

theorem app_one {w wr w1 : World} {B : Nat} {v : Value} {xs : List Nat} {o : Obj} (hb : Below B w wr) (hB : B ≤ w.heap.size) (hv : Own wr B v xs)
    (hgrow : (wr.alloc o).grownBy w1 v.ownBlock) : Below B w w1 := by
  have h0 := hb.size
  exact (hb.alloc (by omega) _).grown hgrow (by simp; omega) (fun k hk => (hv.lt k hk).1)

theorem own_block_lt {w : World} {B : Nat} {v : Value} {xs : List Nat} (h : Own w B v xs) : ∀ k, v.ownBlock = some k → k < w.heap.size := fun k hk => (h.lt k hk).2

end Go.Proofs.Ytohkjjmknpbdaaa
