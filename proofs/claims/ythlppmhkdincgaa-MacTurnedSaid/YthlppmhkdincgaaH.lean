/- Bytes are written to a Hash: what 'Write' does. -/
import Derived.Test.YthlppmhkdincgaaG
import Derived.Deep.RegionLaw
import Derived.Deep.RegionHeld3
import Derived.Deep.DrawnRows
attribute [local go_sem ↓] Go.wp_at_zero Go.wp_at_succ
namespace Go.Proofs.Ythlppmhkdincgaa
open Go.RowKit Sha

theorem blocks_append (x y : List UInt8) (k : Nat) (h : 64 * k ≤ x.length) : blocks (x ++ y) k = blocks x k := by
  induction k with
  | zero => rfl
  | succ k ih =>
    simp only [blocks]
    rw [ih (by omega), List.drop_append_of_le_length (by omega), List.take_append_of_le_length (by simp; omega)]

theorem hcells_set_n (v : St) (r : Value) (n m : Nat) : (hcells v r n).setIfInBounds 10 (.int .i64 (m : Int)) = hcells v r m := rfl
theorem hcells_set_r (v : St) (r r' : Value) (n : Nat) : (hcells v r n).setIfInBounds 9 r' = hcells v r' n := rfl

/-- A digest's words are written into a Hash. -/
def put8 (w : World) (b : Nat) (v : St) : World :=
  (((((((w.setCell ⟨b, 1, none⟩ (.int .u32 (v.a.toNat : Int))).setCell ⟨b, 2, none⟩ (.int .u32 (v.b.toNat : Int))).setCell ⟨b, 3, none⟩ (.int .u32 (v.c.toNat : Int))).setCell ⟨b, 4, none⟩ (.int .u32 (v.d.toNat : Int))).setCell
    ⟨b, 5, none⟩ (.int .u32 (v.e.toNat : Int))).setCell ⟨b, 6, none⟩ (.int .u32 (v.f.toNat : Int))).setCell ⟨b, 7, none⟩ (.int .u32 (v.g.toNat : Int))).setCell ⟨b, 8, none⟩ (.int .u32 (v.h.toNat : Int))

theorem put8_block {w : World} {b n : Nat} {v v' : St} {r : Value} (h : w.heap[b]? = some (.cells (hcells v r n) 38 (0, 0))) : (put8 w b v').heap[b]? = some (.cells (hcells v' r n) 38 (0, 0)) := by
  unfold put8
  have h1 := heap_setCell_same w b 1 _ 38 (.int .u32 (v'.a.toNat : Int)) h
  have h2 := heap_setCell_same _ b 2 _ 38 (.int .u32 (v'.b.toNat : Int)) h1
  have h3 := heap_setCell_same _ b 3 _ 38 (.int .u32 (v'.c.toNat : Int)) h2
  have h4 := heap_setCell_same _ b 4 _ 38 (.int .u32 (v'.d.toNat : Int)) h3
  have h5 := heap_setCell_same _ b 5 _ 38 (.int .u32 (v'.e.toNat : Int)) h4
  have h6 := heap_setCell_same _ b 6 _ 38 (.int .u32 (v'.f.toNat : Int)) h5
  have h7 := heap_setCell_same _ b 7 _ 38 (.int .u32 (v'.g.toNat : Int)) h6
  have h8 := heap_setCell_same _ b 8 _ 38 (.int .u32 (v'.h.toNat : Int)) h7
  rw [h8]
  simp [hcells]

theorem grownBy_refl (w : World) (row : Option Nat) : w.grownBy w row := ⟨rfl, rfl, rfl, Nat.le_refl _, fun _ _ _ => rfl⟩
theorem grownBy_trans {a b c : World} {row : Option Nat} (h : a.grownBy b row) (k : b.grownBy c row) : a.grownBy c row :=
  ⟨k.os.trans h.os, k.tape.trans h.tape, k.output.trans h.output, Nat.le_trans h.size k.size, fun i hi hr => (k.block i (Nat.lt_of_lt_of_le hi h.size) hr).trans (h.block i hi hr)⟩
theorem grownBy_setCell (w : World) (b o : Nat) (x : Value) : w.grownBy (w.setCell ⟨b, o, none⟩ x) (some b) :=
  ⟨rfl, rfl, rfl, by simp [World.setCell], fun k _ hr => heap_setCell_other _ _ _ _ (by simpa using hr)⟩
theorem grownBy_below {w w' : World} (h : Below w.heap.size w w') (row : Option Nat) : w.grownBy w' row := ⟨h.os, h.tape, h.output, h.size, fun k hk _ => h.block k hk⟩
theorem grownBy_put8 (w : World) (b : Nat) (v : St) : w.grownBy (put8 w b v) (some b) := by
  unfold put8
  exact grownBy_trans (grownBy_trans (grownBy_trans (grownBy_trans (grownBy_trans (grownBy_trans (grownBy_trans (grownBy_setCell _ _ _ _) (grownBy_setCell _ _ _ _)) (grownBy_setCell _ _ _ _)) (grownBy_setCell _ _ _ _)) (grownBy_setCell _ _ _ _)) (grownBy_setCell _ _ _ _)) (grownBy_setCell _ _ _ _)) (grownBy_setCell _ _ _ _)
theorem grownBy_drewN (w : World) (n : Nat) (row : Option Nat) : w.grownBy (w.drewN n) row := ⟨rfl, rfl, rfl, Nat.le_refl _, fun _ _ _ => rfl⟩

/-- Bytes stay where a Hash alone is written. -/
theorem BytesAt.grown {w w' : World} {x : Value} {l : List UInt8} {c n : Nat} {v : St} {r : Value} (h : BytesAt w x l) (hc : w.heap[c]? = some (.cells (hcells v r n) 38 (0, 0))) (hr : r.oneCell' = true ∧ ∀ y, r ≠ .int .u8 y) (hg : w.grownBy w' (some c)) : BytesAt w' x l :=
  h.kept fun k hk i y hx => by
    by_cases hkc : k = c
    · subst hkc
      rw [cell_of_row w k i _ 38 (0, 0) hc] at hx
      exact absurd hx (hcells_no_byte _ _ _ _ _ hr.2)
    · exact hg.block k hk (by simpa using hkc)

/-- A builtin append whose run is known, as one step of a region that draws. -/
theorem step_append_is {P : Program} {ops : Array Oper} {o : Oper} {a : Act} {w : World} {K : Act → World → Prop} {Q : Exit → Act → World → Prop} {E : Prop}
    (hg : o.guard = none) (s x : Operand) (t u ty : TypeId) (hop : o.op = Op.call { callee := Callee.builtin Builtin.append, args := #[s, x], argTypes := #[t, u] }) (hty : o.type = ty)
    (sv xv : Value) (hs : a.eval s = sv) (hx : a.eval x = xv) (v : Value) (w' : World) (hr : (Builtin.append_ #[t, u] ty #[sv, xv]).run P w = .ok v w')
    (hK : K (a.put o.dst v) w') :
    if Region.wanted o (yielded ops a.tmps) = true then Oper.wp P o a w K Q else E := by
  have hw : Region.wanted o (yielded ops a.tmps) = true := by simp [Region.wanted, hg]
  rw [if_pos hw]
  subst hty
  unfold Oper.wp
  unfold execOp
  simp only [hop, resolve, invoke, builtin, Sem.run_bind, Sem.run_pure, Result.andThen_ok, List.map_toArray, List.map_cons, List.map_nil, hs, hx, hr]
  exact hK

theorem cells8 {w : World} {b n : Nat} {v : St} {r : Value} (h : w.heap[b]? = some (.cells (hcells v r n) 38 (0, 0))) :
    w.cell? ⟨b, 1, none⟩ = some (.int .u32 (v.a.toNat : Int)) ∧ w.cell? ⟨b, 2, none⟩ = some (.int .u32 (v.b.toNat : Int)) ∧ w.cell? ⟨b, 3, none⟩ = some (.int .u32 (v.c.toNat : Int)) ∧ w.cell? ⟨b, 4, none⟩ = some (.int .u32 (v.d.toNat : Int)) ∧
    w.cell? ⟨b, 5, none⟩ = some (.int .u32 (v.e.toNat : Int)) ∧ w.cell? ⟨b, 6, none⟩ = some (.int .u32 (v.f.toNat : Int)) ∧ w.cell? ⟨b, 7, none⟩ = some (.int .u32 (v.g.toNat : Int)) ∧ w.cell? ⟨b, 8, none⟩ = some (.int .u32 (v.h.toNat : Int)) :=
  ⟨cell_of_row w b 1 _ 38 (0, 0) h, cell_of_row w b 2 _ 38 (0, 0) h, cell_of_row w b 3 _ 38 (0, 0) h, cell_of_row w b 4 _ 38 (0, 0) h, cell_of_row w b 5 _ 38 (0, 0) h, cell_of_row w b 6 _ 38 (0, 0) h, cell_of_row w b 7 _ 38 (0, 0) h, cell_of_row w b 8 _ 38 (0, 0) h⟩

/-- What Write leaves. -/
def Written (w : World) (b : Nat) (t : List UInt8) (e : Ending) (w' : World) : Prop := e = .returned (.tuple #[]) ∧ HashAt w' b t ∧ w.grownBy w' (some b)

set_option maxHeartbeats 2000000 in
theorem write_any (b : Nat) (t : List UInt8) (s : ByteArray) (w : World) (h : HashAt w b t) (hbd : t.length + s.size ≤ 1099511627776) :
    Calls Try.prog 14 #[.pointer (some ⟨b, 0, none⟩), .string s] w (Written w b (t ++ s.data.toList)) := by
  have hm := h.made
  obtain ⟨r, h1, h2⟩ := h
  have c9 : w.cell? ⟨b, 9, none⟩ = some r := cell_of_row w b 9 _ 38 (0, 0) h1
  have c10 : w.cell? ⟨b, 10, none⟩ = some (.int .i64 (t.length : Int)) := cell_of_row w b 10 _ 38 (0, 0) h1
  have f10 := frozen_of_row w b 10 _ 38 h1
  -- the Hash behind its new number of bytes
  obtain ⟨w1, hw1⟩ : ∃ w1, w1 = w.setCell ⟨b, 10, none⟩ (.int .i64 ((t.length : Int) + (s.size : Int))) := ⟨_, rfl⟩
  have h11 : w1.heap[b]? = some (.cells (hcells (blocks t (t.length / 64)) r (t.length + s.size)) 38 (0, 0)) := by
    rw [hw1, heap_setCell_same w b 10 _ 38 _ h1, show ((t.length : Int) + (s.size : Int)) = ((t.length + s.size : Nat) : Int) by omega, hcells_set_n]
  have g1 : w.grownBy w1 (some b) := by rw [hw1]; exact grownBy_setCell _ _ _ _
  have hl1 : (t.drop (64 * (t.length / 64))).length + s.size ≤ 140737488355328 := by simp; omega
  generalize hl0 : t.drop (64 * (t.length / 64)) = l0 at *
  have HL0 := Lib.hid hl0
  clear hl0
  have b1 : BytesAt w1 r l0 := h2.grown h1 ⟨h2.one, fun y => h2.no_byte y⟩ g1
  have d9 : w1.cell? ⟨b, 9, none⟩ = some r := cell_of_row w1 b 9 _ 38 (0, 0) h11
  have hlr := b1.len_run
  obtain ⟨r3, hr3, b3, hcap⟩ := b1.cut3_run
  obtain ⟨v, w2, hap, b2, hb2⟩ := BytesAt.append_run (w := w1.drew) (show BytesAt w1.drew r3 _ from b3) hcap s hl1
  have hbl : b < w1.drew.heap.size := (Array.getElem?_eq_some_iff.1 h11).1
  have e9 : w2.cell? ⟨b, 9, none⟩ = some r := (hb2.cell (p := ⟨b, 9, none⟩) hbl).trans d9
  have h21 : w2.heap[b]? = some (.cells (hcells (blocks t (t.length / 64)) r (t.length + s.size)) 38 (0, 0)) := (hb2.block b hbl).trans h11
  have g2 : w.grownBy w2 (some b) := grownBy_trans g1 (grownBy_trans (grownBy_drewN w1 1 _) (grownBy_below hb2 _))
  have H21 := Lib.hid h21
  have G2 := Lib.hid g2
  clear h21 g2
  have HAP := Lib.hid hap
  clear hap
  have H11 := Lib.hid h11
  have G1 := Lib.hid g1
  have B2 := Lib.hid b2
  have HB2 := Lib.hid hb2
  have B1 := Lib.hid b1
  clear h1 h2 h11 g1 b2 hb2 b1 b3 hcap
  go_enter Try.func14, Try.ntmps14
  go_wp2_with (go_at_call 28; refine (there_true b _ hm).mono ?_; rintro e w' ⟨rfl, rfl⟩)
  rw [← hw1]
  have HW1 := Lib.hid hw1
  clear hw1 c9 c10 f10 hm
  go_region_held3 (fun w' => w'.cell? ⟨b, 9, none⟩ = some r) (first | exact e9 | go_keep) (refine step_append_is rfl (.tmp 31) (.tmp 32) 32 9 32 (by rfl) (by rfl) r3 (.string s) (by rfl) (by rfl) v w2 HAP.out ?_)
  go_wp2
  obtain ⟨T, hT⟩ : ∃ T, T = t ++ s.data.toList := ⟨_, rfl⟩
  have hTl : T.length = t.length + s.size := by rw [hT]; simp
  have hTd : l0 ++ s.data.toList = T.drop (64 * (t.length / 64)) := by
    rw [hT, ← HL0.out, List.drop_append_of_le_length (by omega)]
  have hTb : blocks t (t.length / 64) = blocks T (t.length / 64) := by rw [hT, blocks_append _ _ _ (by omega)]
  have HT := Lib.hid hT
  have HTL := Lib.hid hTl
  have HTD := Lib.hid hTd
  have HTB := Lib.hid hTb
  have hTle : T.length ≤ 1099511627776 := by omega
  have hk0 : 64 * (t.length / 64) ≤ T.length := by omega
  have hr1 := B1.out.one
  have hr2 := B1.out.no_byte
  have HR := Lib.hid (And.intro hr1 hr2)
  clear hT hTl hTd hTb hr1 hr2
  go_loopw [4] (fun bv wr => ∃ k : Nat, 64 * k ≤ T.length ∧ BytesAt wr bv (T.drop (64 * k)) ∧ wr.heap[b]? = some (.cells (hcells (blocks T k) r T.length) 38 (0, 0)) ∧ w.grownBy wr (some b)) (fun bv _ => lenOf bv)
  case atStart => exact ⟨t.length / 64, hk0, by rw [← HTD.out]; exact B2.out, by rw [HTL.out, ← HTB.out]; exact H21.out, G2.out⟩
  case round =>
    obtain ⟨k, hk, hby, hbl, hg⟩ := hrel
    obtain ⟨lu, hlu⟩ : ∃ lu, lu = T.drop (64 * k) := ⟨_, rfl⟩
    rw [← hlu] at hby
    have hlul : lu.length + 64 * k = T.length := by rw [hlu, List.length_drop]; omega
    have HLU := Lib.hid hlu
    have HLL := Lib.hid hlul
    have hln := hby.len_run
    clear hlu hlul
    by_cases hlt : 64 ≤ lu.length
    · obtain ⟨v64, hv64, b64⟩ := hby.cutTo_run 64 hlt
      obtain ⟨vd, hvd, bd⟩ := hby.cutFrom_run 64 hlt
      have hv64' : ∀ W : World, (Instr.slice 32 _ none (some (.int .i64 64)) none).run Try.prog W = .ok v64 W := hv64
      have hvd' : ∀ W : World, (Instr.slice 32 _ (some (.int .i64 64)) none none).run Try.prog W = .ok vd W := hvd
      have hconv := run_convert_bytes wr.drew v64 _ b64
      have hs64 : (str (lu.take 64)).size = 64 := by rw [str_size, List.length_take]; omega
      have HS64 := Lib.hid hs64
      obtain ⟨x64, hx64⟩ : ∃ x, x = str (lu.take 64) := ⟨_, rfl⟩
      rw [← hx64] at hconv
      have HX64 := Lib.hid hx64
      obtain ⟨st, hst⟩ : ∃ st, st = blocks T k := ⟨_, rfl⟩
      rw [← hst] at hbl
      have HST := Lib.hid hst
      clear hst hx64 hs64 hv64 hvd
      obtain ⟨c1, c2, c3, c4, c5, c6, c7, c8⟩ := cells8 hbl
      have HBL := Lib.hid hbl
      have hbs : b < wr.heap.size := (Array.getElem?_eq_some_iff.1 hbl).1
      have B64 := Lib.hid b64
      have BD := Lib.hid bd
      have HBY := Lib.hid hby
      have HG := Lib.hid hg
      clear hbl b64 bd hby hg hr3 hlr d9 e9
      go_wp2
      go_region_with (go_at_call 29; refine (mix_any st x64 (by rw [HX64.out]; exact HS64.out) _).mono ?_; rintro e w5 ⟨rfl, hb5⟩; simp only [St.cells]; have h5 := (hb5.block b hbs).trans HBL.out; obtain ⟨x1, x2, x3, x4, x5, x6, x7, x8⟩ := cells8 h5; have z1 := frozen_of_row w5 b 1 _ 38 h5; have z2 := frozen_of_row w5 b 2 _ 38 h5; have z3 := frozen_of_row w5 b 3 _ 38 h5; have z4 := frozen_of_row w5 b 4 _ 38 h5; have z5 := frozen_of_row w5 b 5 _ 38 h5; have z6 := frozen_of_row w5 b 6 _ 38 h5; have z7 := frozen_of_row w5 b 7 _ 38 h5; have z8 := frozen_of_row w5 b 8 _ 38 h5; have H5 := Lib.hid h5; have HB5 := Lib.hid hb5; clear h5 hb5)
      all_goals
        have hdrop : lu.drop 64 = T.drop (64 * (k + 1)) := by rw [HLU.out, List.drop_drop, Nat.mul_add]
        have hmix : mix st x64.data.toList = blocks T (k + 1) := by rw [HX64.out, HST.out, str_data, HLU.out]; rfl
        have hk1 : 64 * (k + 1) ≤ T.length := by have := HLL.out; omega
        have r1 := HR.out
        have hblk : (put8 w5 b (mix st x64.data.toList)).heap[b]? = some (.cells (hcells (blocks T (k + 1)) r T.length) 38 (0, 0)) := by rw [← hmix]; exact put8_block H5.out
        have hgr : w.grownBy (put8 w5 b (mix st x64.data.toList)) (some b) := grownBy_trans HG.out (grownBy_trans (grownBy_drewN wr 1 _) (grownBy_trans (grownBy_below HB5.out _) (grownBy_put8 _ _ _)))
        have hbyt : BytesAt (put8 w5 b (mix st x64.data.toList)) vd (T.drop (64 * (k + 1))) := by
          rw [← hdrop]
          exact BytesAt.grown (BytesAt.below (w := wr.drew) BD.out HB5.out) H5.out r1 (grownBy_put8 _ _ _)
        have hlen : lenOf vd < lenOf u4 := by
          obtain ⟨a, c, e, _⟩ := BD.out.form
          obtain ⟨a', c', e', _⟩ := HBY.out.form
          rw [e, e']
          simp [lenOf]
          omega
        have HBLK := Lib.hid hblk
        have HGR := Lib.hid hgr
        have HBYT := Lib.hid hbyt
        have HLEN := Lib.hid hlen
        clear hdrop hmix r1 hblk hgr hbyt hlen c1 c2 c3 c4 c5 c6 c7 c8 hconv hv64' HLU
        go_wp2
        go_roundw
        case rel => exact ⟨k + 1, hk1, HBYT.out, HBLK.out, HGR.out⟩
        case measure => exact HLEN.out
    · have hk2 : k = T.length / 64 := by have := HLL.out; omega
      obtain ⟨ua, uc, rfl, _, _⟩ := hby.form
      have f9 := frozen_of_row wr b 9 _ 38 hbl
      have c9' : wr.cell? ⟨b, 9, none⟩ = some r := cell_of_row wr b 9 _ 38 (0, 0) hbl
      have hblk : (wr.setCell ⟨b, 9, none⟩ (.slice ua lu.length uc)).heap[b]? = some (.cells (hcells (blocks T (T.length / 64)) (.slice ua lu.length uc) T.length) 38 (0, 0)) := by
        rw [heap_setCell_same wr b 9 _ 38 _ hbl, hcells_set_r, hk2]
      have hbyt : BytesAt (wr.setCell ⟨b, 9, none⟩ (.slice ua lu.length uc)) (.slice ua lu.length uc) (T.drop (64 * (T.length / 64))) := by
        rw [← hk2, ← HLU.out]
        exact hby.grown hbl HR.out (grownBy_setCell _ _ _ _)
      have hgr := grownBy_trans hg (grownBy_setCell wr b 9 (.slice ua lu.length uc))
      have hfin : Written w b T (.returned (.tuple #[])) (wr.setCell ⟨b, 9, none⟩ (.slice ua lu.length uc)) := ⟨rfl, ⟨_, hblk, hbyt⟩, hgr⟩
      have HF := Lib.hid hfin
      clear hfin hblk hbyt hgr hg hbl hby hk2
      go_wp2
      go_end0
      rw [← HT.out]
      exact HF.out
end Go.Proofs.Ythlppmhkdincgaa
