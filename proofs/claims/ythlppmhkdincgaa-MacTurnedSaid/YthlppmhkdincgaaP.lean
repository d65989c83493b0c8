/- The document's digest of a text: what the reference's 'Of' answers. -/
import Derived.Test.YthlppmhkdincgaaO
attribute [local go_sem ↓] Go.wp_at_zero Go.wp_at_succ
namespace Go.Proofs.Ythlppmhkdincgaa
open Go.RowKit Sha

theorem WordsAt.cell {w : World} {v : Value} {l : List W} (h : WordsAt w v l) : ∃ g o cap, v = .slice (some ⟨g, o, none⟩) l.length cap ∧ g < w.heap.size ∧ ∀ i, i < l.length → w.cell? ⟨g, o + i, none⟩ = some (.int .u32 ((l.getD i 0).toNat : Int)) := by
  obtain ⟨g, o, cap, hv, hg, hl, hc⟩ := h
  exact ⟨g, o, cap, hv, hg, fun i hi => by rw [hc i hi]; simp [List.getD, hi]⟩

theorem padded_length (l : List UInt8) : (Sha.padded l).length = 64 * ((Sha.padded l).length / 64) := by
  have : (Sha.padded l).length = l.length + (1 + (zeros l.length + 8)) := by simp [Sha.padded, Sha.ending, eight_length]; omega
  have h2 := zeros_done l.length
  omega

theorem BytesAt.cutLH_run {w : World} {v : Value} {l : List UInt8} (h : BytesAt w v l) (a n : Nat) (b : Int) (hb : b = ((a + n : Nat) : Int)) (hn : a + n ≤ l.length) :
    ∃ v', (∀ W : World, (Instr.slice 32 v (some (.int .i64 (a : Int))) (some (.int .i64 b)) none).run Try.prog W = .ok v' W) ∧ BytesAt w v' ((l.drop a).take n) := by
  subst hb
  obtain ⟨i, hi, hs⟩ := Option.map_eq_some_iff.1 Try.size5
  rcases h with ⟨rfl, rfl⟩ | ⟨g, o, cap, rfl, h1, h2, h3⟩
  · obtain ⟨rfl, rfl⟩ : a = 0 ∧ n = 0 := by simp at hn; omega
    refine ⟨.slice none 0 0, fun W => ?_, .inl ⟨rfl, rfl⟩⟩
    simp [Instr.slice, run_underlying Try.underlying32, Instr.sliceBounds, Instr.sliceBound, asIntOf, sizeOf, typeInfo, hi, hs]
  · have hln : ((l.drop a).take n).length = n := by simp; omega
    have q1 : (0 : Int) ≤ ((a + n : Nat) : Int) ∧ ((a + n : Nat) : Int) ≤ (cap : Int) := by omega
    have q2 : (0 : Int) ≤ (a : Int) ∧ (a : Int) ≤ ((a + n : Nat) : Int) := by omega
    by_cases hc : cap = a
    · have h0 : n = 0 := by omega
      subst h0
      subst hc
      refine ⟨.slice (some ⟨g, o, none⟩) 0 0, fun W => ?_, .inr ⟨g, o, 0, by simp, by simp, by decide, fun j hj => by simp at hj⟩⟩
      simp [Instr.slice, run_underlying Try.underlying32, Instr.sliceBounds, Instr.sliceBound, asIntOf, sizeOf, typeInfo, hi, hs]
    · refine ⟨.slice (some ⟨g, o + a, none⟩) n (cap - a), fun W => ?_, .inr ⟨g, o + a, cap - a, by rw [hln], by rw [hln]; omega, by omega, fun j hj => ?_⟩⟩
      · simp only [Instr.slice, Instr.sliceBounds, Instr.sliceBound, asIntOf, Sem.run_bind, Sem.run_pure, run_underlying Try.underlying32, Result.andThen_ok, if_pos q1, if_pos q2, sizeOf, typeInfo, hi, hs, Int.toNat_natCast, Nat.mul_one, if_neg hc]
        simp [hi, hs, Addr.add_mid]
      · rw [hln] at hj
        rw [Nat.add_assoc, h3 (a + j) (by omega)]
        simp

theorem ks_words (w : World) (X : Obj) : WordsAt ((w.alloc X).alloc (.cells kcells 34)) (.slice (some ⟨w.heap.size + 1, 0, none⟩) 64 64) ks := by
  refine ⟨w.heap.size + 1, 0, 64, by rw [ks_length], by simp, by rw [ks_length]; decide, fun i hi => ?_⟩
  rw [cell_of_row _ _ _ kcells 34 (0, 0) (heap_alloc2_new _ _ _), Nat.zero_add, ← Array.getElem?_toList, kcells_list]
  simp [hi, u32v]
theorem first_words (w : World) (Y : Obj) : WordsAt ((w.alloc (.cells (St.cells first) 34)).alloc Y) (.slice (some ⟨w.heap.size, 0, none⟩) 8 8) (St.list first) := by
  refine ⟨w.heap.size, 0, 8, rfl, by simp; omega, by decide, fun i hi => ?_⟩
  rw [cell_of_row _ _ _ (St.cells first) 34 (0, 0) (heap_alloc2_old _ _ _), Nat.zero_add, St.cells_get first i hi]
  have : (St.list first)[i] = (St.list first).getD i 0 := by rw [List.getD_eq_getElem?_getD, List.getElem?_eq_getElem hi]; rfl
  rw [this]

theorem plus_take (a b : St) (j : Nat) (h : j < 8) : (St.list (Sha.plus a b)).take (j + 1) = (St.list (Sha.plus a b)).take j ++ [(St.list a).getD j 0 + (St.list b).getD j 0] := by
  obtain rfl | rfl | rfl | rfl | rfl | rfl | rfl | rfl : j = 0 ∨ j = 1 ∨ j = 2 ∨ j = 3 ∨ j = 4 ∨ j = 5 ∨ j = 6 ∨ j = 7 := by omega
  all_goals rfl

set_option maxHeartbeats 4000000 in
theorem refOf_any (s : ByteArray) (w : World) (hs : s.size ≤ 1073741824) :
    Calls Try.prog 11 #[.string s] w fun e w' => e = .returned (.string (str (sha s.data.toList))) ∧ Below w.heap.size w w' := by
  obtain ⟨i0, hi, hz0, hz1, hz2⟩ := info_parts Try.info34
  obtain ⟨i5, hi5, hy0, hy1, hy2⟩ := info_parts Try.info5
  go_enter Try.func11, Try.ntmps11
  go_wp2_with (first
    | (go_at_call 23; refine (refConstants_any _).mono ?_; rintro e w' ⟨rfl, rfl⟩)
    | (go_at_call 24; refine (padded_any s _ hs).mono ?_; rintro e w2 ⟨bv, rfl, hbv, hb2⟩))
  have hk2 := (ks_words w (.cells (St.cells first) 34)).below hb2
  have hh2 := (first_words w (.cells kcells 34)).below hb2
  have hbb : Below w.heap.size w w2 := (((Below.refl _ _).alloc (Nat.le_refl _) _).alloc (by simp) _).trans (hb2.mono (by simp; omega))
  obtain ⟨P, hP⟩ : ∃ P, P = Sha.padded s.data.toList := ⟨_, rfl⟩
  rw [← hP] at hbv
  have hPl : P.length = 64 * (P.length / 64) := by rw [hP]; exact padded_length _
  have hPs : P.length ≤ 1099511627776 := by
    rw [hP]; simp only [Sha.padded, List.length_append, Array.length_toList]
    have := ending_length s.data.size
    have : s.data.size = s.size := rfl
    omega
  obtain ⟨kv, hkv⟩ : ∃ kv, kv = Value.slice (some ⟨w.heap.size + 1, 0, none⟩) 64 64 := ⟨_, rfl⟩
  rw [← hkv] at hk2
  rw [← hkv]
  have HP := Lib.hid hP
  have HPL := Lib.hid hPl
  have HK2 := Lib.hid hk2
  have HH2 := Lib.hid hh2
  have HBV := Lib.hid hbv
  have HBB := Lib.hid hbb
  have hlr := hbv.len_run
  clear hP hPl hkv hk2 hh2 hbv hbb hb2
  go_loopw [3, 6, 7, 8, 9, 10, 11] (fun hv a _ _ _ _ _ wr => ∃ (k n : Nat), Hid (n = 64 * k) ∧ n ≤ P.length ∧ a = .int .i64 n ∧ WordsAt wr hv (St.list (blocks P k)) ∧ WordsAt wr kv ks ∧ BytesAt wr bv P ∧ Below w.heap.size w wr)
    (fun _ a _ _ _ _ _ _ => P.length + 64 - (intOf a).toNat)
  case atStart => exact ⟨0, 0, Lib.hid rfl, Nat.zero_le _, rfl, HH2.out, HK2.out, HBV.out, HBB.out⟩
  case round =>
    obtain ⟨k, n, HN, hn, rfl, hh, hk, hb, hbe⟩ := hrel
    obtain ⟨wo, hwo⟩ : ∃ x, x = wr := ⟨_, rfl⟩
    subst hwo
    by_cases hlt : n < P.length
    · have hn64 : n + 64 ≤ P.length := by have := HN.out; have := HPL.out; omega
      obtain ⟨v64, hv64, hb64⟩ := hb.cutLH_run n 64 ((n : Int) + 64) (by omega) hn64
      have HB64 := Lib.hid hb64
      have HH := Lib.hid hh
      have HK := Lib.hid hk
      have HB := Lib.hid hb
      have HBE := Lib.hid hbe
      clear hb64 hh hk hb hbe
      go_wp2_with (go_at_call 25; refine (refWords_any v64 _ _ HB64.out (by simp; omega)).mono ?_; rintro e w3 ⟨wv, rfl, hwv, hb3⟩)
      obtain ⟨st0, hst0⟩ : ∃ st, st = blocks P k := ⟨_, rfl⟩
      obtain ⟨blk, hblk⟩ : ∃ b, b = (P.drop n).take 64 := ⟨_, rfl⟩
      rw [← hblk] at hwv
      have hh3 := HH.out.below hb3
      rw [← hst0] at hh3
      have HH3 := Lib.hid hh3
      have HWV := Lib.hid hwv
      have HB3 := Lib.hid hb3
      have HST := Lib.hid hst0
      have HBL := Lib.hid hblk
      clear hh3 hwv hb3 hst0 hblk
      go_loopw [8, 9] (fun v a wi => ∃ i : Nat, i ≤ 64 ∧ a = .int .i64 i ∧ WordsAt wi v (St.list (Sha.rounds st0 blk i)) ∧ WordsAt wi wv (sched blk 64) ∧ Below wo.heap.size wo wi)
        (fun _ a _ => 64 - (intOf a).toNat)
      case atStart => exact ⟨0, by omega, rfl, HH3.out, HWV.out, HB3.out⟩
      case round =>
        obtain ⟨i, hi64, rfl, hvi, hwi, hbi⟩ := hrel
        have hki := HK.out.below hbi
        by_cases hlt2 : i < 64
        · have hlti : (i : Int) < 64 := by omega
          have hsl : (sched blk 64).length = 64 := sched_length _ _
          obtain ⟨gk, ok, ck, rfl, hgk, hck⟩ := hki.cell
          obtain ⟨gw, ow, cw, rfl, hgw, hcw⟩ := hwi.cell
          have ck0 := hck i (by rw [ks_length]; exact hlt2)
          have cw0 := hcw i (by rw [hsl]; exact hlt2)
          have hnx : Sha.rounds st0 blk (i + 1) = Sha.step (Sha.rounds st0 blk i) (ks.getD i 0) ((sched blk 64).getD i 0) := rfl
          rw [hsl] at hwi ⊢
          rw [ks_length] at hki ⊢
          generalize ks.getD i 0 = ki at *
          generalize hxe : (sched blk 64).getD i 0 = xi at *
          have HNX := Lib.hid hnx
          have HVI := Lib.hid hvi
          have HWI := Lib.hid hwi
          have HBI := Lib.hid hbi
          have HKI := Lib.hid hki
          clear hnx hvi hwi hbi hki hck hcw hxe hsl
          go_wp2
          go_region_held3 (fun w' => w'.cell? ⟨gk, ok + i, none⟩ = some (.int .u32 (ki.toNat : Int)) ∧ w'.cell? ⟨gw, ow + i, none⟩ = some (.int .u32 (xi.toNat : Int)) ∧ Below wr.heap.size wr w')
            (first | exact ⟨ck0, cw0, (Below.refl _ _).drew⟩ | exact ⟨q1, q2, q3⟩ | go_keep)
            ((go_at_call 26; refine (refStep_any _ _ ki xi _ (HVI.out.below ((Below.refl _ _).drew))).mono ?_; rintro e w' ⟨v', rfl, hv', hb'⟩; have q3 : Below wr.heap.size wr w' := (Below.refl _ _).drew.trans hb'; have q1 := (q3.cell (p := ⟨gk, ok + i, none⟩) hgk).trans ck0; have q2 := (q3.cell (p := ⟨gw, ow + i, none⟩) hgw).trans cw0))
          rw [← HNX.out] at hv'
          have HV := Lib.hid hv'
          have HQ := Lib.hid (HBI.out.trans (q3.mono HBI.out.size))
          have HWN := Lib.hid (HWI.out.below q3)
          clear hv' hb' q1 q2 q3 ck0 cw0
          go_wp2
          go_roundw
          case rel => exact ⟨i + 1, by omega, by go_num, HV.out, HWN.out, HQ.out⟩
          case measure => simp [intOf]; omega
        · obtain rfl : i = 64 := by omega
          have HV := Lib.hid hvi
          have HBI := Lib.hid hbi
          clear hvi hwi hki hbi
          rw [show ((64 : Nat) : Int) = 64 from rfl]
          go_wp2
          obtain ⟨wm, hwm⟩ : ∃ x, x = wr := ⟨_, rfl⟩
          subst hwm
          go_loopw [10, 11] (fun nx a wj => ∃ j : Nat, j ≤ 8 ∧ a = .int .i64 j ∧ wj.ownsRow wm.heap.size 34 1 nx j (((St.list (Sha.plus st0 (Sha.rounds st0 blk 64))).take j).map u32v) ∧ Below wm.heap.size wm wj)
            (fun _ a _ => 8 - (intOf a).toNat)
          case atStart => exact ⟨0, by omega, rfl, World.ownsRow_nil _ _ _ _, Below.refl _ _⟩
          case round =>
            obtain ⟨j, hj8, rfl, hown, hbj⟩ := hrel
            by_cases hltj : j < 8
            · have hjt : (j : Int) < 8 := by omega
              have hhm := HH.out.below HBI.out
              rw [← HST.out] at hhm
              obtain ⟨gh, oh, ch, rfl, hgh, hch⟩ := hhm.cell
              obtain ⟨gv, ov, cv, rfl, hgv, hcv⟩ := HV.out.cell
              have ch0 := (hbj.cell (p := ⟨gh, oh + j, none⟩) hgh).trans (hch j hltj)
              have cv0 := (hbj.cell (p := ⟨gv, ov + j, none⟩) hgv).trans (hcv j hltj)
              have hpt := plus_take st0 (Sha.rounds st0 blk 64) j hltj
              have hsz := hbj.size
              generalize (St.list st0).getD j 0 = hj at *
              generalize (St.list (Sha.rounds st0 blk 64)).getD j 0 = vj at *
              have HPT := Lib.hid hpt
              clear hpt hch hcv hhm
              simp only [show (St.list st0).length = 8 from rfl, show (St.list (Sha.rounds st0 blk 64)).length = 8 from rfl]
              go_wp2
              go_region_law ((refine step_append_lies _ (by rfl) (.tmp 49) (.tmp 59) 45 (by rfl) wm.heap.size 34 i0 (.int .u32 0) 1 4 Try.underlying45 hi hz0 hz1 hz2 rfl (by decide) _ _ _ (by rfl) ((hown.alloc _).drew) ⟨wr.heap.size, 0, none⟩ 1 1 _ (by rfl) (by rfl) (World.news_of_block (heap_alloc_new wr _)) (by simp [Value.oneCell']) (by omega) (by unfold maxLen; omega) (by omega) (by simp; omega) (wr.heap.size + 1) (by simp) ?_; intro g2 cap2 w1 hown1 hgrow hat hlt1))
              all_goals
                have hb1 : Below wm.heap.size wm w1 := (hbj.alloc hsz _).drew.grown hgrow (by simp; omega) (fun g hg => (hown.lt g hg).1)
                have hn : w1.ownsRow wm.heap.size 34 1 (.slice (some ⟨g2, 0, none⟩) (j + 1) cap2) (j + 1) (((St.list (Sha.plus st0 (Sha.rounds st0 blk 64))).take (j + 1)).map u32v) := by
                  rw [HPT.out, List.map_append]
                  rw [w_add] at hown1
                  exact hown1
                have HO := Lib.hid hn
                have HB1 := Lib.hid hb1
                clear hn hown1 hgrow hat hlt1 hown hb1
                go_wp2
                go_roundw
                case rel => exact ⟨j + 1, by omega, by go_num, HO.out, HB1.out⟩
                case measure => simp [intOf]; omega
            · obtain rfl : j = 8 := by omega
              have hfin : WordsAt wr u10 (St.list (Sha.plus st0 (Sha.rounds st0 blk 64))) := WordsAt.of_own hown (by omega) (by omega)
              have HFIN := Lib.hid hfin
              clear hfin hown
              rw [show ((8 : Nat) : Int) = 8 from rfl]
              go_wp2
              go_roundw
              case rel =>
                refine ⟨k + 1, n + 64, Lib.hid (by have := HN.out; omega), by omega, by go_num, ?_, ?_, ?_, ?_⟩
                · rw [HST.out, HBL.out, HN.out] at HFIN
                  exact HFIN.out
                · exact (HK.out.below HBI.out).below hbj
                · exact (HB.out.below HBI.out).below hbj
                · exact HBE.out.trans ((HBI.out.trans (hbj.mono HBI.out.size)).mono HBE.out.size)
              case measure => simp [intOf]; omega
    · obtain rfl : n = P.length := by omega
      have hkk : k = P.length / 64 := by have := HN.out; omega
      have hst : St.list (blocks P k) = St.list (blocks P (P.length / 64)) := by rw [hkk]
      rw [hst] at hh
      obtain ⟨st, hst2⟩ : ∃ st, st = blocks P (P.length / 64) := ⟨_, rfl⟩
      rw [← hst2] at hh
      have HST := Lib.hid hst2
      have HH := Lib.hid hh
      have HBE := Lib.hid hbe
      clear hst hkk hst2 hh hbe hk hb
      go_wp2
      go_loopw [12, 13] (fun b a wj => ∃ j : Nat, j ≤ 8 ∧ a = .int .i64 j ∧ wj.ownsRow wo.heap.size 5 1 b (4 * j) ((((St.list st).take j).flatMap four).map u8v) ∧ Below wo.heap.size wo wj)
        (fun _ a _ => 8 - (intOf a).toNat)
      case atStart => exact ⟨0, by omega, rfl, World.ownsRow_nil _ _ _ _, Below.refl _ _⟩
      case round =>
        obtain ⟨j, hj8, rfl, hown, hbj⟩ := hrel
        by_cases hltj : j < 8
        · have hjt : (j : Int) < 8 := by omega
          obtain ⟨gh, oh, ch, rfl, hgh, hch⟩ := HH.out.cell
          have cj := hch j hltj
          have ci := (hbj.cell (p := ⟨gh, oh + j, none⟩) hgh).trans cj
          have ht := take_four st j hltj
          generalize (St.list st).getD j 0 = x at *
          rw [four_vals x] at ht
          have HT := Lib.hid ht
          simp only [show (St.list st).length = 8 from rfl]
          clear hch ht
          go_wp2_with (at_builtin; refine wpList_append_own _ rfl _ _ 32 rfl wo.heap.size 5 i5 (.int .u8 0) 1 1 Try.underlying32 hi5 hy0 hy1 hy2 rfl (by decide) _ _ _ rfl (hown.alloc _) ⟨wr.heap.size, 0, none⟩ 1 1 [.int .u8 ((x.toNat : Int) / 16777216)] rfl rfl (news_new _ _ _ _ rfl) (by simp [Value.oneCell']) (by unfold maxLen; omega) (by omega) (by have := hbj.size; simp; omega) ?_)
          intro v1 w1 hown1 hgrow1 _
          have hb1 : Below wo.heap.size wo w1 := (hbj.alloc hbj.size _).grown hgrow1 (by have := hbj.size; simp; omega) (fun g hg => (hown.lt g hg).1)
          have c1 := (hb1.cell (p := ⟨gh, oh + j, none⟩) hgh).trans cj
          clear hown hgrow1 ci
          go_wp2_with (at_builtin; refine wpList_append_own _ rfl _ _ 32 rfl wo.heap.size 5 i5 (.int .u8 0) 1 1 Try.underlying32 hi5 hy0 hy1 hy2 rfl (by decide) _ _ _ rfl (hown1.alloc _) ⟨w1.heap.size, 0, none⟩ 1 1 [.int .u8 ((x.toNat : Int) / 65536 % 256)] rfl rfl (news_new _ _ _ _ rfl) (by simp [Value.oneCell']) (by unfold maxLen; omega) (by omega) (by have := hb1.size; simp; omega) ?_)
          intro v2 w2 hown2 hgrow2 _
          have hb2 : Below wo.heap.size wo w2 := (hb1.alloc hb1.size _).grown hgrow2 (by have := hb1.size; simp; omega) (fun g hg => (hown1.lt g hg).1)
          have c2 := (hb2.cell (p := ⟨gh, oh + j, none⟩) hgh).trans cj
          clear hown1 hgrow2 c1
          go_wp2_with (at_builtin; refine wpList_append_own _ rfl _ _ 32 rfl wo.heap.size 5 i5 (.int .u8 0) 1 1 Try.underlying32 hi5 hy0 hy1 hy2 rfl (by decide) _ _ _ rfl (hown2.alloc _) ⟨w2.heap.size, 0, none⟩ 1 1 [.int .u8 ((x.toNat : Int) / 256 % 256)] rfl rfl (news_new _ _ _ _ rfl) (by simp [Value.oneCell']) (by unfold maxLen; omega) (by omega) (by have := hb2.size; simp; omega) ?_)
          intro v3 w3 hown3 hgrow3 _
          have hb3 : Below wo.heap.size wo w3 := (hb2.alloc hb2.size _).grown hgrow3 (by have := hb2.size; simp; omega) (fun g hg => (hown2.lt g hg).1)
          have c3 := (hb3.cell (p := ⟨gh, oh + j, none⟩) hgh).trans cj
          clear hown2 hgrow3 c2
          go_wp2_with (at_builtin; refine wpList_append_own _ rfl _ _ 32 rfl wo.heap.size 5 i5 (.int .u8 0) 1 1 Try.underlying32 hi5 hy0 hy1 hy2 rfl (by decide) _ _ _ rfl (hown3.alloc _) ⟨w3.heap.size, 0, none⟩ 1 1 [.int .u8 ((x.toNat : Int) % 256)] rfl rfl (news_new _ _ _ _ rfl) (by simp [Value.oneCell']) (by unfold maxLen; omega) (by omega) (by have := hb3.size; simp; omega) ?_)
          intro v4 w4 hown4 hgrow4 _
          have hb4 : Below wo.heap.size wo w4 := (hb3.alloc hb3.size _).grown hgrow4 (by have := hb3.size; simp; omega) (fun g hg => (hown3.lt g hg).1)
          have c4 := (hb4.cell (p := ⟨gh, oh + j, none⟩) hgh).trans cj
          clear hown3 hgrow4 c3
          have HO := Lib.hid hown4
          have HB4 := Lib.hid hb4
          clear hown4 hb4 hb3 hb2 hb1 c4
          go_wp2
          go_roundw
          case rel =>
            refine ⟨j + 1, by omega, by go_num, ?_, HB4.out⟩
            rw [HT.out, show 4 * (j + 1) = 4 * j + 1 + 1 + 1 + 1 by omega]
            have := HO.out
            simpa [List.append_assoc] using this
          case measure => simp [intOf]; omega
        · obtain rfl : j = 8 := by omega
          have hconv := run_convert_bytes wr _ _ (.of_own hown)
          rw [show (St.list st).take 8 = St.list st from rfl, ← St.bytes_eq] at hconv
          rw [show ((8 : Nat) : Int) = 8 from rfl]
          go_wp2
          go_ret
          refine ⟨?_, HBE.out.trans (hbj.mono HBE.out.size)⟩
          rw [HST.out, HP.out]
          rfl
end Go.Proofs.Ythlppmhkdincgaa
