/- A block's words as the document has them: what the reference's 'words' answers. -/
import Derived.Test.YthlppmhkdincgaaL
import Derived.Deep.AppendLies
import Derived.Deep.RegionLaw
attribute [local go_sem ↓] Go.wp_at_zero Go.wp_at_succ
namespace Go.Proofs.Ythlppmhkdincgaa
open Go.RowKit Sha

theorem quad_or' (a b c d : UInt8) : bits .or .u32 (bits .or .u32 (bits .or .u32 (IntKind.u32.wrap (IntKind.u32.wrap (a.toNat : Int) * 16777216)) (IntKind.u32.wrap (IntKind.u32.wrap (b.toNat : Int) * 65536)))
    (IntKind.u32.wrap (IntKind.u32.wrap (c.toNat : Int) * 256))) (IntKind.u32.wrap (d.toNat : Int)) = ((quad a b c d).toNat : Int) := by
  simp only [IntKind.wrap_u32']
  exact quad_or a b c d

theorem spread_sum' (x16 x15 x7 x2 : W) :
    IntKind.u32.wrap (IntKind.u32.wrap (IntKind.u32.wrap ((x16.toNat : Int) + bits .xor .u32 (bits .xor .u32 ((rotr x15 7).toNat : Int) ((rotr x15 18).toNat : Int)) ((x15.toNat : Int) / (8 : Int))) + (x7.toNat : Int)) +
      bits .xor .u32 (bits .xor .u32 ((rotr x2 17).toNat : Int) ((rotr x2 19).toNat : Int)) ((x2.toNat : Int) / (1024 : Int))) = ((x16 + low x15 + x7 + high x2).toNat : Int) := by
  rw [w_shr3, w_shr10, w_xor, w_xor, w_xor, w_xor, w_add, w_add, w_add]
  rfl

/-- A cell of an argument behind an append to a row of the call's own. -/
theorem far_cell {wr w1 : World} {g : Nat} {row : Option Nat} {X : Obj} (hg : g < wr.heap.size) (hne : some g ≠ row) (h : (wr.alloc X).drew.grownBy w1 row) {j : Nat} {x : Value} (hx : wr.cell? ⟨g, j, none⟩ = some x) : w1.cell? ⟨g, j, none⟩ = some x := by
  rw [h.cell_far ⟨g, j, none⟩ (by simp; omega) hne]
  exact (World.cell?_of_block (w := wr) (ha_old wr X g hg)).trans hx

set_option maxHeartbeats 2000000 in
theorem refWords_any (v : Value) (l : List UInt8) (w : World) (h : BytesAt w v l) (hl : l.length = 64) :
    Calls Try.prog 25 #[v] w (RetWords w (sched l 64)) := by
  obtain ⟨i0, hi, hz0, hz1, hz2⟩ := info_parts Try.info34
  rcases h with ⟨rfl, rfl⟩ | ⟨g, o, cap, rfl, hcap, hcm, hc⟩
  · simp at hl
  have hg : g < w.heap.size := World.block_lt_of_cell? w _ (hc 0 (by omega))
  have HC := Lib.hid hc
  have HL := Lib.hid hl
  have hl2 : 64 ≤ l.length := by omega
  have hl3 : l.length ≤ 64 := by omega
  clear hc hl
  go_enter Try.func25, Try.ntmps25
  go_wp2
  go_loopw [3, 4] (fun b i wr => ∃ k : Nat, k ≤ 16 ∧ i = .int .i64 k ∧ wr.ownsRow w.heap.size 34 1 b k ((sched l k).map u32v) ∧ Below w.heap.size w wr) (fun _ i _ => 16 - (intOf i).toNat)
  case atStart => exact ⟨0, by omega, rfl, World.ownsRow_nil _ _ _ _, Below.refl _ _⟩
  case round =>
    obtain ⟨k, hk, rfl, hown, hb⟩ := hrel
    have hsz := hb.size
    by_cases hlt : k < 16
    · obtain ⟨k0, hk0⟩ : ∃ j, j = 4 * k := ⟨_, rfl⟩
      obtain ⟨k1, hk1⟩ : ∃ j, j = k0 + 1 := ⟨_, rfl⟩
      obtain ⟨k2, hk2⟩ : ∃ j, j = k0 + 2 := ⟨_, rfl⟩
      obtain ⟨k3, hk3⟩ : ∃ j, j = k0 + 3 := ⟨_, rfl⟩
      have e0 : IntKind.i64.wrap (4 * (k : Int)) = (k0 : Int) := by rw [IntWalk.i64_in _ (by omega)]; omega
      have e1 : IntKind.i64.wrap ((k0 : Int) + 1) = (k1 : Int) := by rw [IntWalk.i64_in _ (by omega)]; omega
      have e2 : IntKind.i64.wrap ((k0 : Int) + 2) = (k2 : Int) := by rw [IntWalk.i64_in _ (by omega)]; omega
      have e3 : IntKind.i64.wrap ((k0 : Int) + 3) = (k3 : Int) := by rw [IntWalk.i64_in _ (by omega)]; omega
      have cell : ∀ i, i < 64 → wr.cell? ⟨g, o + i, none⟩ = some (.int .u8 ((l.getD i 0).toNat : Int)) := fun i hi => by
        rw [hb.cell (p := ⟨g, o + i, none⟩) hg, HC.out i (by omega)]
        simp [u8v, List.getD, show i < l.length by omega]
      have c0 := cell k0 (by omega)
      have c1 := cell k1 (by omega)
      have c2 := cell k2 (by omega)
      have c3 := cell k3 (by omega)
      have hw : word l k = quad (l.getD k0 0) (l.getD k1 0) (l.getD k2 0) (l.getD k3 0) := by rw [hk3, hk2, hk1, hk0]; rfl
      have b0 : (k0 : Int) < (l.length : Int) := by omega
      have b1 : (k1 : Int) < (l.length : Int) := by omega
      have b2 : (k2 : Int) < (l.length : Int) := by omega
      have b3 : (k3 : Int) < (l.length : Int) := by omega
      generalize l.getD k0 0 = x0 at *
      generalize l.getD k1 0 = x1 at *
      generalize l.getD k2 0 = x2 at *
      generalize l.getD k3 0 = x3 at *
      have HW := Lib.hid hw
      clear hw cell hk0 hk1 hk2 hk3
      have hgwr : g < wr.heap.size := by omega
      have hneq : some g ≠ u3.ownBlock := fun e => by have := (hown.lt g e.symm).1; omega
      go_wp2
      go_region_held3 (fun w' => w'.cell? ⟨g, o + k0, none⟩ = some (.int .u8 (x0.toNat : Int)) ∧ w'.cell? ⟨g, o + k1, none⟩ = some (.int .u8 (x1.toNat : Int)) ∧ w'.cell? ⟨g, o + k2, none⟩ = some (.int .u8 (x2.toNat : Int)) ∧ w'.cell? ⟨g, o + k3, none⟩ = some (.int .u8 (x3.toNat : Int)))
        (first | exact ⟨d0, d1, d2, d3⟩ | go_keep)
        ((refine step_append_lies _ (by rfl) (.tmp 14) (.tmp 48) 45 (by rfl) w.heap.size 34 i0 (.int .u32 0) 1 4 Try.underlying45 hi hz0 hz1 hz2 rfl (by decide) _ _ _ (by rfl) ((hown.alloc _).drew) ⟨wr.heap.size, 0, none⟩ 1 1 _ (by rfl) (by rfl) (World.news_of_block (heap_alloc_new wr _)) (by simp [Value.oneCell']) (by omega) (by unfold maxLen; omega) (by omega) (by simp; omega) (wr.heap.size + 1) (by simp) ?_; intro g1 cap1 w1 hown1 hgrow hat hlt1; have d0 := far_cell hgwr hneq hgrow c0; have d1 := far_cell hgwr hneq hgrow c1; have d2 := far_cell hgwr hneq hgrow c2; have d3 := far_cell hgwr hneq hgrow c3))
      have hb1 : Below w.heap.size w w1 := (hb.alloc hsz _).drew.grown hgrow (by simp; omega) (fun g hg => (hown.lt g hg).1)
      have hn : w1.ownsRow w.heap.size 34 1 (.slice (some ⟨g1, 0, none⟩) (k + 1) cap1) (k + 1) ((sched l (k + 1)).map u32v) := by
        rw [next_word l k hlt, List.map_append, HW.out]
        rw [quad_or'] at hown1
        exact hown1
      have HN := Lib.hid hn
      clear hn hown1 hgrow hat hlt1 hown d0 d1 d2 d3
      go_wp2
      go_roundw
      case rel => exact ⟨k + 1, by omega, by go_num, HN.out, hb1⟩
      case measure => simp [intOf]; omega
    · obtain rfl : k = 16 := by omega
      rw [show ((16 : Nat) : Int) = 16 from rfl]
      go_wp2
      go_loopw [3, 5, 6, 7, 8, 9] (fun b i _ _ _ _ wr => ∃ k : Nat, 16 ≤ k ∧ k ≤ 64 ∧ i = .int .i64 k ∧ wr.ownsRow w.heap.size 34 1 b k ((sched l k).map u32v) ∧ Below w.heap.size w wr) (fun _ i _ _ _ _ _ => 64 - (intOf i).toNat)
      case atStart => exact ⟨16, by omega, by omega, rfl, hown, hb⟩
      case round =>
        clear hown hb hsz
        obtain ⟨k, hk16, hk64, rfl, hown, hb⟩ := hrel
        have hsz := hb.size
        have hwords := WordsAt.of_own hown (by omega) (by omega)
        obtain ⟨g1, o1, cap1, hv, hg1, _, hcs⟩ := hwords
        rw [sched_length] at hv
        subst hv
        by_cases hlt : k < 64
        · obtain ⟨i16, hi16⟩ : ∃ j : Nat, j = k - 16 := ⟨_, rfl⟩
          obtain ⟨i15, hi15⟩ : ∃ j : Nat, j = k - 15 := ⟨_, rfl⟩
          obtain ⟨i7, hi7⟩ : ∃ j : Nat, j = k - 7 := ⟨_, rfl⟩
          obtain ⟨i2, hi2⟩ : ∃ j : Nat, j = k - 2 := ⟨_, rfl⟩
          have e16 : IntKind.i64.wrap ((k : Int) - 16) = (i16 : Int) := by rw [IntWalk.i64_in _ (by omega)]; omega
          have e15 : IntKind.i64.wrap ((k : Int) - 15) = (i15 : Int) := by rw [IntWalk.i64_in _ (by omega)]; omega
          have e7 : IntKind.i64.wrap ((k : Int) - 7) = (i7 : Int) := by rw [IntWalk.i64_in _ (by omega)]; omega
          have e2 : IntKind.i64.wrap ((k : Int) - 2) = (i2 : Int) := by rw [IntWalk.i64_in _ (by omega)]; omega
          have f15 : (k : Int) - 15 = (i15 : Int) := by omega
          have f2 : (k : Int) - 2 = (i2 : Int) := by omega
          have cell : ∀ i, i < k → wr.cell? ⟨g1, o1 + i, none⟩ = some (.int .u32 (((sched l k).getD i 0).toNat : Int)) := fun i hi => by
            rw [hcs i (by rw [sched_length]; exact hi)]
            simp [List.getD, sched_length, hi]
          have c16 := cell i16 (by omega)
          have c15 := cell i15 (by omega)
          have c7 := cell i7 (by omega)
          have c2 := cell i2 (by omega)
          have hnext : sched l (k + 1) = sched l k ++ [(sched l k).getD i16 0 + low ((sched l k).getD i15 0) + (sched l k).getD i7 0 + high ((sched l k).getD i2 0)] := by
            simp only [sched, next]
            rw [if_neg (by omega), hi16, hi15, hi7, hi2]
          have l16 : (i16 : Int) < (k : Int) := by omega
          have l15 : (i15 : Int) < (k : Int) := by omega
          have l7 : (i7 : Int) < (k : Int) := by omega
          have l2 : (i2 : Int) < (k : Int) := by omega
          have m15 : i15 < k := by omega
          have m2 : i2 < k := by omega
          clear cell hi16 hi15 hi7 hi2 hcs
          generalize (sched l k).getD i16 0 = x16 at *
          generalize (sched l k).getD i15 0 = x15 at *
          generalize (sched l k).getD i7 0 = x7 at *
          generalize (sched l k).getD i2 0 = x2 at *
          have HN := Lib.hid hnext
          clear hnext
          go_wp2_with (go_at_call 36; refine (rotr_int _ _ (by omega) (by omega) _).mono ?_; rintro e w' ⟨rfl, rfl⟩)
          go_region_law ((refine step_append_lies _ (by rfl) (.tmp 80) (.tmp 96) 45 (by rfl) w.heap.size 34 i0 (.int .u32 0) 1 4 Try.underlying45 hi hz0 hz1 hz2 rfl (by decide) _ _ _ (by rfl) ((hown.alloc _).drew) ⟨wr.heap.size, 0, none⟩ 1 1 _ (by rfl) (by rfl) (World.news_of_block (heap_alloc_new wr _)) (by simp [Value.oneCell']) (by omega) (by unfold maxLen; omega) (by omega) (by simp; omega) (wr.heap.size + 1) (by simp) ?_; intro g2 cap2 w1 hown1 hgrow hat hlt1))
          all_goals
            have hb1 : Below w.heap.size w w1 := (hb.alloc hsz _).drew.grown hgrow (by simp; omega) (fun g hg => (hown.lt g hg).1)
            have hn : w1.ownsRow w.heap.size 34 1 (.slice (some ⟨g2, 0, none⟩) (k + 1) cap2) (k + 1) ((sched l (k + 1)).map u32v) := by
              rw [HN.out, List.map_append]
              rw [spread_sum'] at hown1
              exact hown1
            have HO := Lib.hid hn
            clear hn hown1 hgrow hat hlt1 hown
            go_wp2
            go_roundw
            case rel => exact ⟨k + 1, by omega, by omega, by go_num, HO.out, hb1⟩
            case measure => simp [intOf]; omega
        · obtain rfl : k = 64 := by omega
          have hfin : WordsAt wr (.slice (some ⟨g1, o1, none⟩) 64 cap1) (sched l 64) := WordsAt.of_own hown (by omega) (by omega)
          have HF := Lib.hid hfin
          clear hfin hcs hown
          go_wp2
          go_ret
          exact ⟨_, rfl, HF.out, hb⟩
end Go.Proofs.Ythlppmhkdincgaa
