/- Laws on whole arrays in a variable: one that is made at zero, and a row that is stored over a new block. -/
import Derived.Test.YthlppmhkdincgaaA
import Derived.Deep.MidRow
namespace Go.Proofs.Ythlppmhkdincgaa
open Go.RowKit Sha

theorem wpList_alloc_agg {P : Program} {ops : Array Oper} {rest : List Oper} {o : Oper} {a : Act} {w : World} {Q : Exit → Act → World → Prop} (hgd : o.guard = none) (t : TypeId) (ho : o.op = .alloc t)
    (zs : Array Value) (hz : (P.info? t).map (·.zero) = some (some (.agg zs)))
    (h : wpList P ops Q rest (a.put o.dst (.pointer (some ⟨w.heap.size, 0, none⟩))) (w.alloc (.cells zs t))) : wpList P ops Q (o :: rest) a w := by
  refine wpList_plain hgd fun K hK => ?_
  cases hq : P.info? t with
  | none => simp [hq] at hz
  | some i =>
    have hz' : i.zero = some (.agg zs) := by simpa [hq] using hz
    unfold Oper.wp execOp
    simp [ho, Instr.alloc, zeroValue, typeInfo, hq, hz', newVar, newRow, Value.cells]
    exact hK _ _ h

theorem ha_old (w : World) (o : Obj) (i : Nat) (h : i < w.heap.size) : (w.alloc o).heap[i]? = w.heap[i]? := Below.heap_alloc w o i h
theorem ha3_0 (w : World) (A B C : Obj) : (((w.alloc A).alloc B).alloc C).heap[w.heap.size]? = some A := by
  rw [ha_old _ _ w.heap.size (by simp; omega), heap_alloc2_old]
theorem ha3_1 (w : World) (A B C : Obj) : (((w.alloc A).alloc B).alloc C).heap[w.heap.size + 1]? = some B := by
  rw [ha_old _ _ (w.heap.size + 1) (by simp), heap_alloc2_new]
theorem ha2_lt (w : World) (A B : Obj) (i : Nat) (h : i < w.heap.size) : ((w.alloc A).alloc B).heap[i]? = w.heap[i]? := by
  rw [ha_old _ _ i (by simp; omega), ha_old _ _ i h]
/-- The same, the new block's number named. -/
theorem wpList_alloc_at {P : Program} {ops : Array Oper} {rest : List Oper} {o : Oper} {a : Act} {w : World} {Q : Exit → Act → World → Prop} (hgd : o.guard = none) (t : TypeId) (ho : o.op = .alloc t)
    (zs : Array Value) (hz : (P.info? t).map (·.zero) = some (some (.agg zs))) (b : Nat) (hb : w.heap.size = b)
    (h : wpList P ops Q rest (a.put o.dst (.pointer (some ⟨b, 0, none⟩))) (w.alloc (.cells zs t))) : wpList P ops Q (o :: rest) a w := by
  subst hb
  exact wpList_alloc_agg hgd t ho zs hz h

theorem setRow_alloc (w : World) (old cs : Array Value) (t : TypeId) : (w.alloc (.cells old t)).setRow w.heap.size cs = w.alloc (.cells cs t) := by
  unfold World.setRow World.alloc
  congr 1
  apply Array.ext
  · simp
  · intro k h1 h2
    simp only [Array.getElem_modify, Array.getElem_push]
    split
    · rename_i hk
      subst hk
      simp
    · have : k < w.heap.size := by simp at h2; omega
      rw [dif_pos this, dif_pos this]

theorem setRow_alloc_past (w : World) (o : Obj) (g : Nat) (cs : Array Value) (hg : g < w.heap.size) : (w.alloc o).setRow g cs = (w.setRow g cs).alloc o := by
  unfold World.setRow World.alloc
  congr 1
  apply Array.ext
  · simp
  · intro k h1 h2
    simp only [Array.getElem_modify, Array.getElem_push]
    by_cases hk : k < w.heap.size
    · simp [hk, Array.getElem_modify]
    · simp [hk, show ¬ (g = k) by omega]
theorem setRow_alloc2_old (w : World) (old cs : Array Value) (t : TypeId) (o : Obj) : ((w.alloc (.cells old t)).alloc o).setRow w.heap.size cs = (w.alloc (.cells cs t)).alloc o := by
  rw [setRow_alloc_past _ _ _ _ (by simp), setRow_alloc]
theorem setRow_alloc2_new (w : World) (old cs : Array Value) (t : TypeId) (o : Obj) : ((w.alloc o).alloc (.cells old t)).setRow (w.heap.size + 1) cs = (w.alloc o).alloc (.cells cs t) := by
  have := setRow_alloc (w.alloc o) old cs t
  rwa [World.size_alloc] at this

theorem wpList_build_is {P : Program} {ops : Array Oper} {rest : List Oper} {o : Oper} {a : Act} {w : World} {Q : Exit → Act → World → Prop} (hgd : o.guard = none) (t : TypeId) (parts : Array (Nat × Operand)) (ho : o.op = .build t parts)
    (cells : Array Value) (hb : P.built t (parts.map fun (i, x) => (i, a.eval x)).toList = some cells)
    (h : wpList P ops Q rest (a.put o.dst (.agg cells)) w) : wpList P ops Q (o :: rest) a w :=
  wpList_build hgd t parts ho (by rw [hb]; rfl) (by rw [hb]; exact h)

/-- The end of a function whose one result is a row. -/
theorem bodyPost_row {P : Program} {fn : Func} {R : Ending → World → Prop} {a : Act} {w : World} {p : Tmp} {ty : TypeId} (h : fn.results = #[.cell p ty]) (hdf : a.defers = []) (g : Nat) (t : TypeId) (cs : Array Value) (fr : Nat × Nat) (d : TypeDesc)
    (hp : a.tmps.getD p undef = .pointer (some ⟨g, 0, none⟩)) (hg : w.heap[g]? = some (.cells cs t fr))
    (hu : P.underlying ty = some d) (hd : (match d with | .struct _ | .array _ _ => true | _ => false) = true) (hi : (P.info? ty).map (·.size) = some cs.size)
    (hR : R (.returned (.agg cs)) w) : bodyPost P fn R .ret a w :=
  bodyPost_ret (results_cell_row h _ w g t cs fr d hp hg hu hd hi) hdf hR

def zeros64 : Array Value := (List.replicate 64 (Value.int .u32 0)).toArray
theorem Try.zero59 : (Try.prog.info? 59).map (·.zero) = some (some (.agg zeros64)) := by kernel_rfl
theorem Try.size59 : (Try.prog.info? 59).map (·.size) = some 64 := by kernel_rfl

theorem kcells_one : kcells.all (·.oneCell') = true := by kernel_rfl

set_option maxRecDepth 100000 in
theorem constants_any (w : World) :
    Calls Try.prog 37 #[] w fun e w' => e = .returned (.agg kcells) ∧ w' = w.alloc (.cells kcells 59) := by
  go_enter Try.func37, Try.ntmps37
  go_wp2_with (first
    | (with_reducible refine wpList_alloc_agg (o := ⟨some 0, .alloc _, _, _, _, _⟩) rfl 59 rfl zeros64 Try.zero59 ?_)
    | (with_reducible refine wpList_build_is (o := ⟨some 1, .build _ _, _, _, _, _⟩) rfl 59 _ rfl kcells (by kernel_rfl) ?_)
    | ((with_reducible show wpList _ _ _ (⟨none, .store _ _ _, _, _, _, _⟩ :: _) _ _); refine wpList_store_row rfl 59 _ _ rfl w.heap.size kcells rfl rfl 59 zeros64 (heap_alloc_new w _) Try.size59 rfl kcells_one ?_; rw [setRow_alloc])
    | fail)
  exact bodyPost_ret (v := .agg kcells) (results_cell_row Try.results37 _ _ w.heap.size 59 kcells (0, 0) _ rfl (heap_alloc_new w _) Try.underlying59 rfl (by kernel_rfl)) rfl ⟨rfl, rfl⟩
end Go.Proofs.Ythlppmhkdincgaa
