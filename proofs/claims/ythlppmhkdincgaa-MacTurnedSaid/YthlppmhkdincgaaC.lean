/- A block is mixed in: what 'mix' answers. -/
import Derived.Test.YthlppmhkdincgaaB
namespace Go.Proofs.Ythlppmhkdincgaa
open Go.RowKit Sha

theorem Try.zero36 : (Try.prog.info? 36).map (·.zero) = some (some (.agg #[.int .u32 0, .int .u32 0, .int .u32 0, .int .u32 0, .int .u32 0, .int .u32 0, .int .u32 0, .int .u32 0])) := by kernel_rfl
theorem Try.size36 : (Try.prog.info? 36).map (·.size) = some 8 := by kernel_rfl

set_option maxHeartbeats 1000000 in
set_option maxRecDepth 100000 in
theorem mix_any (v : St) (s : ByteArray) (hs : s.size = 64) (w : World) :
    Calls Try.prog 29 #[.agg (St.cells v), .string s] w fun e w' => e = .returned (.agg (St.cells (mix v s.data.toList))) ∧ Below w.heap.size w w' := by
  have hs' := Lib.hid hs
  clear hs
  obtain ⟨va, vb, vc, vd, ve, vf, vg, vh⟩ := v
  simp only [St.cells]
  go_enter Try.func29, Try.ntmps29
  go_wp2_with (first
    | (go_at_call 37; refine (constants_any _).mono ?_; rintro e w' ⟨rfl, rfl⟩)
    | (go_at_call 38; refine (spread_any s hs'.out _).mono ?_; rintro e w2 ⟨rfl, hb2⟩)
    | ((with_reducible show wpList _ _ _ (⟨some 5, .alloc 59, _, _, _, _⟩ :: _) _ _); refine wpList_alloc_at rfl 59 rfl zeros64 Try.zero59 w2.heap.size rfl ?_)
    | ((with_reducible show wpList _ _ _ (⟨some 6, .alloc 59, _, _, _, _⟩ :: _) _ _); refine wpList_alloc_at rfl 59 rfl zeros64 Try.zero59 (w2.heap.size + 1) (by simp) ?_)
    | ((with_reducible show wpList _ _ _ (⟨none, .store _ (.tmp 5) _, _, _, _, _⟩ :: _) _ _); refine wpList_store_row rfl 59 _ _ rfl w2.heap.size kcells rfl rfl 59 zeros64 (heap_alloc2_old _ _ _) Try.size59 rfl kcells_one ?_; rw [setRow_alloc2_old])
    | ((with_reducible show wpList _ _ _ (⟨none, .store _ (.tmp 6) _, _, _, _, _⟩ :: _) _ _); refine wpList_store_row rfl 59 _ _ rfl (w2.heap.size + 1) (wcells (sched s.data.toList 64)) rfl rfl 59 zeros64 (heap_alloc2_new _ _ _) (by rw [wcells_size _ (by rw [sched_length]; omega)]; exact Try.size59) (by rw [wcells_size _ (by rw [sched_length]; omega)]; rfl) (wcells_one _) ?_; rw [setRow_alloc2_new])
    | fail)
  simp only [Act.put, List.setIfInBounds_toArray, List.set_cons_succ, List.set_cons_zero]
  have hz2 : w.heap.size + 3 ≤ w2.heap.size := by have h := hb2.size; rw [World.size_alloc, World.size_alloc, World.size_alloc] at h; omega
  have hV : w2.heap[w.heap.size]? = some (.cells #[.int .u32 (va.toNat : Int), .int .u32 (vb.toNat : Int), .int .u32 (vc.toNat : Int), .int .u32 (vd.toNat : Int), .int .u32 (ve.toNat : Int), .int .u32 (vf.toNat : Int), .int .u32 (vg.toNat : Int), .int .u32 (vh.toNat : Int)] 36 (0, 0)) := by
    rw [hb2.block w.heap.size (by simp; omega), ha3_0]
  have hR : w2.heap[w.heap.size + 1]? = some (.cells #[.int .u32 0, .int .u32 0, .int .u32 0, .int .u32 0, .int .u32 0, .int .u32 0, .int .u32 0, .int .u32 0] 36 (0, 0)) := by
    rw [hb2.block (w.heap.size + 1) (by simp), ha3_1]
  have hb : Below w.heap.size w w2 := (((((Below.refl _ _).alloc (Nat.le_refl _) _).alloc (by simp) _).alloc (by simp; omega) _).trans (hb2.mono (by simp; omega)))
  clear hb2
  obtain ⟨w3, hw3⟩ : ∃ w3, w3 = (w2.alloc (Obj.cells kcells 59)).alloc (Obj.cells (wcells (sched s.data.toList 64)) 59) := ⟨_, rfl⟩
  have hK : w3.heap[w2.heap.size]? = some (.cells kcells 59 (0, 0)) := by rw [hw3, heap_alloc2_old]
  have hW : w3.heap[w2.heap.size + 1]? = some (.cells (wcells (sched s.data.toList 64)) 59 (0, 0)) := by rw [hw3, heap_alloc2_new]
  have hV3 : w3.heap[w.heap.size]? = _ := (by rw [hw3, ha2_lt _ _ _ _ (by omega)] : w3.heap[w.heap.size]? = w2.heap[w.heap.size]?).trans hV
  have hR3 : w3.heap[w.heap.size + 1]? = _ := (by rw [hw3, ha2_lt _ _ _ _ (by omega)] : w3.heap[w.heap.size + 1]? = w2.heap[w.heap.size + 1]?).trans hR
  have hb3 : Below w.heap.size w w3 := by rw [hw3]; exact (hb.alloc (by omega) _).alloc (by simp; omega) _
  rw [← hw3]
  clear hV hR hb hw3
  have HK := Lib.hid hK
  have HW := Lib.hid hW
  have HV := Lib.hid hV3
  have HR := Lib.hid hR3
  clear hK hW hV3 hR3
  have c0 : w3.cell? ⟨w.heap.size, 0, none⟩ = some (.int .u32 (va.toNat : Int)) := cell_of_row _ _ 0 _ 36 (0, 0) HV.out
  have c1 : w3.cell? ⟨w.heap.size, 1, none⟩ = some (.int .u32 (vb.toNat : Int)) := cell_of_row _ _ 1 _ 36 (0, 0) HV.out
  have c2 : w3.cell? ⟨w.heap.size, 2, none⟩ = some (.int .u32 (vc.toNat : Int)) := cell_of_row _ _ 2 _ 36 (0, 0) HV.out
  have c3 : w3.cell? ⟨w.heap.size, 3, none⟩ = some (.int .u32 (vd.toNat : Int)) := cell_of_row _ _ 3 _ 36 (0, 0) HV.out
  have c4 : w3.cell? ⟨w.heap.size, 4, none⟩ = some (.int .u32 (ve.toNat : Int)) := cell_of_row _ _ 4 _ 36 (0, 0) HV.out
  have c5 : w3.cell? ⟨w.heap.size, 5, none⟩ = some (.int .u32 (vf.toNat : Int)) := cell_of_row _ _ 5 _ 36 (0, 0) HV.out
  have c6 : w3.cell? ⟨w.heap.size, 6, none⟩ = some (.int .u32 (vg.toNat : Int)) := cell_of_row _ _ 6 _ 36 (0, 0) HV.out
  have c7 : w3.cell? ⟨w.heap.size, 7, none⟩ = some (.int .u32 (vh.toNat : Int)) := cell_of_row _ _ 7 _ 36 (0, 0) HV.out
  go_quiet (fail)
  go_wp2
  go_loopw [7, 8, 9, 10, 11, 12, 13, 14, 15, 16, 17, 18, 19, 39] (fun a b c d e f g h _ _ _ _ _ i wr => ∃ (k n : Nat) (xa xb xc xd xe xf xg xh : W), k ≤ 64 ∧ i = .int .i64 k ∧ wr = w3.drewN n ∧
      Hid ((⟨xa, xb, xc, xd, xe, xf, xg, xh⟩ : St) = Sha.rounds ⟨va, vb, vc, vd, ve, vf, vg, vh⟩ s.data.toList k) ∧ a = .int .u32 (xa.toNat : Int) ∧ b = .int .u32 (xb.toNat : Int) ∧ c = .int .u32 (xc.toNat : Int) ∧ d = .int .u32 (xd.toNat : Int) ∧
      e = .int .u32 (xe.toNat : Int) ∧ f = .int .u32 (xf.toNat : Int) ∧ g = .int .u32 (xg.toNat : Int) ∧ h = .int .u32 (xh.toNat : Int))
    (fun _ _ _ _ _ _ _ _ _ _ _ _ _ i _ => 64 - (intOf i).toNat)
  case atStart => exact ⟨0, _, va, vb, vc, vd, ve, vf, vg, vh, by omega, rfl, rfl, Lib.hid rfl, rfl, rfl, rfl, rfl, rfl, rfl, rfl, rfl⟩
  case round =>
    obtain ⟨k, n, xa, xb, xc, xd, xe, xf, xg, xh, hk, rfl, rfl, hst, rfl, rfl, rfl, rfl, rfl, rfl, rfl, rfl⟩ := hrel
    by_cases hlt : k < 64
    · have ck : w3.cell? ⟨w2.heap.size, k, none⟩ = some (.int .u32 ((ks.getD k 0).toNat : Int)) := by
        rw [cell_of_row w3 _ k _ 59 (0, 0) HK.out, kcells_eq]
        simp only [List.getElem?_toArray, List.getElem?_map]
        rw [List.getElem?_eq_getElem (by rw [ks_length]; exact hlt)]
        simp [List.getD, ks_length, hlt]
      have cw : w3.cell? ⟨w2.heap.size + 1, k, none⟩ = some (.int .u32 (((sched s.data.toList 64).getD k 0).toNat : Int)) := by
        rw [cell_of_row w3 _ k _ 59 (0, 0) HW.out]
        exact wcells_get _ k (by rw [sched_length]; exact hlt)
      have hnext : Sha.rounds ⟨va, vb, vc, vd, ve, vf, vg, vh⟩ s.data.toList (k + 1) = Sha.step ⟨xa, xb, xc, xd, xe, xf, xg, xh⟩ (ks.getD k 0) ((sched s.data.toList 64).getD k 0) := by
        rw [hst.out]; rfl
      generalize ks.getD k 0 = xk at *
      generalize (sched s.data.toList 64).getD k 0 = xw at *
      have HN := Lib.hid hnext
      clear hnext
      have hlti : (k : Int) < 64 := by omega
      obtain ⟨w4, hw4⟩ : ∃ w4, w4 = w3.drewN n := ⟨_, rfl⟩
      have ck4 : w4.cell? ⟨w2.heap.size, k, none⟩ = _ := (by rw [hw4]; rfl : w4.cell? ⟨w2.heap.size, k, none⟩ = w3.cell? ⟨w2.heap.size, k, none⟩).trans ck
      have cw4 : w4.cell? ⟨w2.heap.size + 1, k, none⟩ = _ := (by rw [hw4]; rfl : w4.cell? ⟨w2.heap.size + 1, k, none⟩ = w3.cell? ⟨w2.heap.size + 1, k, none⟩).trans cw
      rw [← hw4]
      have HW4 := Lib.hid hw4
      clear hw4 ck cw
      go_wp2
      go_quiet ((go_at_call 39; exact Calls.quiet_of_same ((right_int _ _ (by omega) (by omega) _).mono fun _ _ h => ⟨h.1, h.2.symm⟩)))
      go_wp2_with (go_at_call 39; refine (right_int _ _ (by omega) (by omega) _).mono ?_; rintro e w' ⟨rfl, rfl⟩)
      go_roundw
      case rel =>
        refine ⟨k + 1, n + nq, _, xa, xb, xc, _, xe, xf, xg, by omega, by go_num, by rw [HW4.out, World.drewN_drewN], Lib.hid HN.out.symm, congrArg (Value.int IntKind.u32) ?_, rfl, rfl, rfl, congrArg (Value.int IntKind.u32) ?_, rfl, rfl, rfl⟩
        · simp only [w_xor, w_and, w_or, pick_eq, most_eq]
          simp only [Sha.t1, Sha.t2, BitVec.toNat_add]
          omega
        · simp only [w_xor, w_and, w_or, pick_eq, most_eq]
          simp only [Sha.t1, Sha.t2, BitVec.toNat_add]
          omega
      case measure => simp [intOf]; omega
    · obtain rfl : k = 64 := by omega
      go_wp2_with (((with_reducible show wpList _ _ _ (⟨none, .store 36 _ _, _, _, _, _⟩ :: _) _ _)); refine wpList_store_row rfl 36 _ _ rfl (w.heap.size + 1) _ rfl rfl 36 _ HR.out Try.size36 rfl (by simp [Value.oneCell']) ?_)
      refine bodyPost_row Try.results29 rfl (w.heap.size + 1) 36 _ (0, 0) _ rfl (setRow_heap (w3.drewN n) _ _ _ _ _ HR.out) Try.underlying36 rfl Try.size36 ?_
      have hm := hst.out
      refine ⟨?_, below_setRow (below_drewN hb3 n) (by omega) _⟩
      simp only [Sha.mix, ← hm, Sha.plus, w_add']
end Go.Proofs.Ythlppmhkdincgaa
