/- The document's own digest, its parts: constants, padding, words, step. -/
import Derived.Test.YthlppmhkdincgaaJ
import Derived.Deep.RegionHeld3
import Derived.Deep.DrawnRows
attribute [local go_sem ↓] Go.wp_at_zero Go.wp_at_succ
namespace Go.Proofs.Ythlppmhkdincgaa
open Go.RowKit Sha

/-- A word as a value. -/
def u32v (x : W) : Value := .int .u32 (x.toNat : Int)
theorem u32v_one (l : List W) : ∀ u ∈ l.map u32v, u.oneCell' = true := by
  intro u hu
  obtain ⟨c, _, rfl⟩ := List.mem_map.1 hu
  rfl

/-- A slice of words that lies somewhere reads as a list. -/
def WordsAt (w : World) (v : Value) (l : List W) : Prop :=
  ∃ g o cap, v = .slice (some ⟨g, o, none⟩) l.length cap ∧ g < w.heap.size ∧ l.length ≤ 9223372036854775807 ∧ ∀ i, (h : i < l.length) → w.cell? ⟨g, o + i, none⟩ = some (.int .u32 ((l[i]).toNat : Int))

theorem WordsAt.below {w w' : World} {v : Value} {l : List W} (h : WordsAt w v l) (hb : Below w.heap.size w w') : WordsAt w' v l := by
  obtain ⟨g, o, cap, hv, hg, hl, hc⟩ := h
  exact ⟨g, o, cap, hv, Nat.lt_of_lt_of_le hg hb.size, hl, fun i hi => (hb.cell (p := ⟨g, o + i, none⟩) hg).trans (hc i hi)⟩

theorem WordsAt.of_own {w : World} {base n : Nat} {v : Value} {l : List W} (h : w.ownsRow base 34 1 v n (l.map u32v)) (h1n : 1 ≤ n) (hn : n ≤ 1000000) : WordsAt w v l := by
  obtain ⟨hl, h⟩ := h
  have hln : l.length = n := by simpa using hl
  rcases h with ⟨_, h0⟩ | ⟨g, cap, cur, rfl, hg, hh, h1, h2, h3, h4⟩
  · omega
  · refine ⟨g, 0, cap, by rw [hln], (Array.getElem?_eq_some_iff.1 hh).1, by omega, fun i hi => ?_⟩
    rw [cell_of_row w g _ cur 34 (0, 0) hh]
    have e : (cur.toList.take (n * 1))[i]? = some (u32v l[i]) := by rw [h4]; simp [hi]
    rw [List.getElem?_take, if_pos (by omega)] at e
    simpa [u32v] using e

theorem Try.info34 : (Try.prog.info? 34).map (fun i => (i.zero, i.size, i.bytes)) = some (some (.int .u32 0), 1, 4) := by kernel_rfl
/-- An operation whose run is known. -/
theorem wpList_is {P : Program} {ops : Array Oper} {rest : List Oper} {o : Oper} {a : Act} {w : World} {Q : Exit → Act → World → Prop} (hgd : o.guard = none) (v : Value) (w' : World)
    (hr : (execOp a.eval o).run P w = .ok (.value v) w') (h : wpList P ops Q rest (a.put o.dst v) w') : wpList P ops Q (o :: rest) a w := by
  refine wpList_plain hgd fun K hK => ?_
  unfold Oper.wp
  rw [hr]
  exact hK _ _ h

theorem kcells_list : kcells.toList = ks.map u32v := by rw [kcells_eq]; rfl

set_option maxRecDepth 100000 in
theorem refConstants_any (w : World) :
    Calls Try.prog 23 #[] w fun e w' => e = .returned (.slice (some ⟨w.heap.size, 0, none⟩) 64 64) ∧ w' = w.alloc (.cells kcells 34) := by
  go_enter Try.func23, Try.ntmps23
  go_wp2_with (((with_reducible show wpList _ _ _ (⟨some 1, .buildSlice _ _ _, _, _, _, _⟩ :: _) _ _)); refine wpList_is rfl (.slice (some ⟨w.heap.size, 0, none⟩) 64 64) (w.alloc (.cells kcells 34)) (by kernel_rfl) ?_)
  go_ret
  exact ⟨rfl, rfl⟩
/-- A slice of words comes back; nothing that was there has turned. -/
def RetWords (w : World) (l : List W) (e : Ending) (w' : World) : Prop := ∃ v, e = .returned v ∧ WordsAt w' v l ∧ Below w.heap.size w w'

theorem rotr_int (x : W) (m : Int) (h1 : 1 ≤ m) (h2 : m ≤ 31) (w : World) :
    Calls Try.prog 36 #[.int .u32 (x.toNat : Int), .int .i64 m] w fun e w' => e = .returned (.int .u32 ((rotr x m.toNat).toNat : Int)) ∧ w = w' := by
  obtain ⟨n, rfl⟩ := Int.eq_ofNat_of_zero_le (show 0 ≤ m by omega)
  exact rotr_any x n (by omega) (by omega) w

theorem w_not (x : W) : bits .xor .u32 IntKind.u32.max (x.toNat : Int) = ((~~~x).toNat : Int) := by
  show IntKind.u32.wrap ((BitVec.ofInt 32 IntKind.u32.max ^^^ BitVec.ofInt 32 (x.toNat : Int)).toNat : Int) = _
  rw [ofInt_w, wrap_w, show BitVec.ofInt 32 IntKind.u32.max = BitVec.allOnes 32 by decide, BitVec.allOnes_xor]

/-- A new row of words. -/
theorem words_new (w : World) (cs : Array Value) (l : List W) (n cap : Nat) (h : cs.toList = l.map u32v) (hn : l.length = n) (hl : n ≤ 9223372036854775807) : WordsAt (w.alloc (.cells cs 34)).drew (.slice (some ⟨w.heap.size, 0, none⟩) n cap) l := by
  subst hn
  refine ⟨w.heap.size, 0, cap, rfl, by simp, hl, fun i hi => ?_⟩
  show (w.alloc (.cells cs 34)).cell? _ = _
  rw [cell_of_row _ _ _ cs 34 (0, 0) (heap_alloc_new w _), Nat.zero_add, ← Array.getElem?_toList, h]
  simp [hi, u32v]

set_option maxHeartbeats 1000000 in
theorem refStep_any (v : Value) (st : St) (k x : W) (w : World) (h : WordsAt w v (St.list st)) :
    Calls Try.prog 26 #[v, .int .u32 (k.toNat : Int), .int .u32 (x.toNat : Int)] w (RetWords w (St.list (Sha.step st k x))) := by
  obtain ⟨va, vb, vc, vd, ve, vf, vg, vh⟩ := st
  obtain ⟨g, o, cap, rfl, hg, _, hc⟩ := h
  simp only [St.list] at hc
  have c0 : w.cell? ⟨g, o, none⟩ = some (.int .u32 (va.toNat : Int)) := hc 0 (by show 0 < 8; decide)
  have c1 : w.cell? ⟨g, o + 1, none⟩ = some (.int .u32 (vb.toNat : Int)) := hc 1 (by show 1 < 8; decide)
  have c2 : w.cell? ⟨g, o + 2, none⟩ = some (.int .u32 (vc.toNat : Int)) := hc 2 (by show 2 < 8; decide)
  have c3 : w.cell? ⟨g, o + 3, none⟩ = some (.int .u32 (vd.toNat : Int)) := hc 3 (by show 3 < 8; decide)
  have c4 : w.cell? ⟨g, o + 4, none⟩ = some (.int .u32 (ve.toNat : Int)) := hc 4 (by show 4 < 8; decide)
  have c5 : w.cell? ⟨g, o + 5, none⟩ = some (.int .u32 (vf.toNat : Int)) := hc 5 (by show 5 < 8; decide)
  have c6 : w.cell? ⟨g, o + 6, none⟩ = some (.int .u32 (vg.toNat : Int)) := hc 6 (by show 6 < 8; decide)
  have c7 : w.cell? ⟨g, o + 7, none⟩ = some (.int .u32 (vh.toNat : Int)) := hc 7 (by show 7 < 8; decide)
  clear hc
  simp only [St.list, List.length_cons, List.length_nil]
  obtain ⟨ne, hne⟩ : ∃ ne, ne = ~~~ve := ⟨_, rfl⟩
  have hn := w_not ve
  rw [← hne] at hn
  have HNE := Lib.hid hne
  clear hne
  go_enter Try.func26, Try.ntmps26
  go_wp2
  go_quiet ((go_at_call 36; exact Calls.quiet_of_same ((rotr_int _ _ (by omega) (by omega) _).mono fun _ _ h => ⟨h.1, h.2.symm⟩)))
  go_wp2
  generalize hw1 : w.drewN _ = w2
  have d0 : w2.cell? ⟨g, o, none⟩ = some (.int .u32 (va.toNat : Int)) := by rw [← hw1]; exact c0
  have d1 : w2.cell? ⟨g, o + 1, none⟩ = some (.int .u32 (vb.toNat : Int)) := by rw [← hw1]; exact c1
  have d2 : w2.cell? ⟨g, o + 2, none⟩ = some (.int .u32 (vc.toNat : Int)) := by rw [← hw1]; exact c2
  have d3 : w2.cell? ⟨g, o + 3, none⟩ = some (.int .u32 (vd.toNat : Int)) := by rw [← hw1]; exact c3
  have d4 : w2.cell? ⟨g, o + 4, none⟩ = some (.int .u32 (ve.toNat : Int)) := by rw [← hw1]; exact c4
  have d5 : w2.cell? ⟨g, o + 5, none⟩ = some (.int .u32 (vf.toNat : Int)) := by rw [← hw1]; exact c5
  have d6 : w2.cell? ⟨g, o + 6, none⟩ = some (.int .u32 (vg.toNat : Int)) := by rw [← hw1]; exact c6
  have d7 : w2.cell? ⟨g, o + 7, none⟩ = some (.int .u32 (vh.toNat : Int)) := by rw [← hw1]; exact c7
  have HW1 := Lib.hid hw1
  clear hw1 c0 c1 c2 c3 c4 c5 c6 c7
  go_quiet ((go_at_call 36; exact Calls.quiet_of_same ((rotr_int _ _ (by omega) (by omega) _).mono fun _ _ h => ⟨h.1, h.2.symm⟩)))
  go_wp2
  generalize hw2 : w2.drewN _ = w3
  have e0 : w3.cell? ⟨g, o, none⟩ = some (.int .u32 (va.toNat : Int)) := by rw [← hw2]; exact d0
  have e1 : w3.cell? ⟨g, o + 1, none⟩ = some (.int .u32 (vb.toNat : Int)) := by rw [← hw2]; exact d1
  have e2 : w3.cell? ⟨g, o + 2, none⟩ = some (.int .u32 (vc.toNat : Int)) := by rw [← hw2]; exact d2
  have e3 : w3.cell? ⟨g, o + 3, none⟩ = some (.int .u32 (vd.toNat : Int)) := by rw [← hw2]; exact d3
  have e4 : w3.cell? ⟨g, o + 4, none⟩ = some (.int .u32 (ve.toNat : Int)) := by rw [← hw2]; exact d4
  have e5 : w3.cell? ⟨g, o + 5, none⟩ = some (.int .u32 (vf.toNat : Int)) := by rw [← hw2]; exact d5
  have e6 : w3.cell? ⟨g, o + 6, none⟩ = some (.int .u32 (vg.toNat : Int)) := by rw [← hw2]; exact d6
  have e7 : w3.cell? ⟨g, o + 7, none⟩ = some (.int .u32 (vh.toNat : Int)) := by rw [← hw2]; exact d7
  have HW2 := Lib.hid hw2
  clear hw2 d0 d1 d2 d3 d4 d5 d6 d7
  have n0 := World.new_ne w3 ⟨g, o, none⟩ e0
  go_region_held3 (fun w' => w'.cell? ⟨g, o, none⟩ = some (.int .u32 (va.toNat : Int)) ∧ w'.cell? ⟨g, o + 1, none⟩ = some (.int .u32 (vb.toNat : Int)) ∧ w'.cell? ⟨g, o + 2, none⟩ = some (.int .u32 (vc.toNat : Int)) ∧ w'.cell? ⟨g, o + 3, none⟩ = some (.int .u32 (vd.toNat : Int)) ∧
    w'.cell? ⟨g, o + 4, none⟩ = some (.int .u32 (ve.toNat : Int)) ∧ w'.cell? ⟨g, o + 5, none⟩ = some (.int .u32 (vf.toNat : Int)) ∧ w'.cell? ⟨g, o + 6, none⟩ = some (.int .u32 (vg.toNat : Int)))
    (go_keep) (fail)
  go_wp2
  go_ret
  refine ⟨.slice (some ⟨w3.heap.size, 0, none⟩) 8 8, rfl, words_new w3 _ _ 8 8 ?_ rfl (by decide), ?_⟩
  · simp only [List.map_cons, List.map_nil, u32v, Sha.step, List.cons.injEq, Value.int.injEq, true_and, and_true]
    refine ⟨?_, ?_⟩
    · simp only [w_xor, w_and, IntKind.wrap_u32', Sha.t1, Sha.t2, BitVec.toNat_add, ← HNE.out]
      omega
    · simp only [w_xor, w_and, IntKind.wrap_u32', Sha.t1, Sha.t2, BitVec.toNat_add, ← HNE.out]
      omega
  · rw [← HW2.out, ← HW1.out]
    exact ((below_drewN (below_drewN (Below.refl _ _) _) _).alloc (by simp) _).drew
end Go.Proofs.Ythlppmhkdincgaa
