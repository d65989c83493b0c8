/- Bytes in memory: a slice of the call's own as a string; what 'text' answers. -/
import Derived.Test.YthlppmhkdincgaaC
import Derived.Lib.AppendStr
namespace Go.Proofs.Ythlppmhkdincgaa
open Go.RowKit Sha

/-- A byte as a value. -/
def u8v (c : UInt8) : Value := .int .u8 (c.toNat : Int)
/-- Bytes as a string. -/
def str (l : List UInt8) : ByteArray := ⟨l.toArray⟩
theorem str_data (l : List UInt8) : (str l).data.toList = l := rfl
theorem str_size (l : List UInt8) : (str l).size = l.length := by simp [str, ByteArray.size]
theorem str_eta (s : ByteArray) : str s.data.toList = s := by cases s; simp [str]
theorem u8v_one (l : List UInt8) : ∀ u ∈ l.map u8v, u.oneCell' = true := by
  intro u hu
  obtain ⟨c, _, rfl⟩ := List.mem_map.1 hu
  rfl
theorem strCells_eq (s : ByteArray) : Lib.strCells s = s.data.toList.map u8v := rfl

/-- A slice of bytes that lies somewhere reads as a list. -/
def BytesAt (w : World) (v : Value) (l : List UInt8) : Prop :=
  (v = .slice none 0 0 ∧ l = []) ∨ ∃ g o cap, v = .slice (some ⟨g, o, none⟩) l.length cap ∧ l.length ≤ cap ∧ cap ≤ maxLen ∧ ∀ i, (h : i < l.length) → w.cell? ⟨g, o + i, none⟩ = some (u8v l[i])

theorem BytesAt.of_own {w : World} {base n : Nat} {v : Value} {l : List UInt8} (h : w.ownsRow base 5 1 v n (l.map u8v)) : BytesAt w v l := by
  obtain ⟨hl, h⟩ := h
  have hn : l.length = n := by simpa using hl
  rcases h with ⟨rfl, h0⟩ | ⟨g, cap, cur, rfl, hg, hh, h1, h2, h3, h4⟩
  · exact .inl ⟨rfl, List.eq_nil_of_length_eq_zero (by omega)⟩
  · refine .inr ⟨g, 0, cap, by rw [hn], by omega, h2, fun i hi => ?_⟩
    rw [cell_of_row w g _ cur 5 (0, 0) hh]
    have e : (cur.toList.take (n * 1))[i]? = some (u8v l[i]) := by rw [h4]; simp [hi]
    rw [List.getElem?_take, if_pos (by omega)] at e
    simpa using e

theorem run_convert_bytes (w : World) (v : Value) (l : List UInt8) (h : BytesAt w v l) : (convert 32 9 v).run Try.prog w = .ok (.string (str l)) w := by
  rcases h with ⟨rfl, rfl⟩ | ⟨g, o, cap, rfl, h1, h2, h3⟩
  · rw [run_convert_bytes_nil w 32 5 Try.underlying32 Try.underlying5 0 0 9 Try.underlying9]
    rfl
  · rw [run_convert_bytes_arg w 32 5 Try.underlying32 Try.underlying5 g o l.length cap (l.map fun c => (c.toNat : Int)) (by simp) (fun i hi => by
      rw [h3 i hi]
      simp [u8v, List.getD, hi]) 9 Try.underlying9]
    congr 2
    simp [strOfNums, str]
    rw [show ((fun n : Int => UInt8.ofNat n.toNat) ∘ fun c : UInt8 => (c.toNat : Int)) = id from by funext c; simp]
    exact List.map_id l

theorem Try.size34 : (Try.prog.info? 34).map (·.size) = some 1 := by kernel_rfl
theorem Try.info5 : (Try.prog.info? 5).map (fun i => (i.zero, i.size, i.bytes)) = some (some (.int .u8 0), 1, 1) := by kernel_rfl

theorem run_index8 (cs : Array Value) (k : Nat) (hk : k < 8) (v : Value) (hv : cs[k]? = some v) (w : World) : (Instr.index 36 (.agg cs) (.int .i64 (k : Int))).run Try.prog w = .ok v w := by
  obtain ⟨i, hi, hs⟩ := Option.map_eq_some_iff.1 Try.size34
  have hk' : (k : Int) < 8 := by omega
  have hk2 : ¬ 8 ≤ k := by omega
  simp [Instr.index, asIntOf, run_underlying Try.underlying36, hk', hk2, sizeOf, typeInfo, hi, hs, part, isAgg, run_underlying Try.underlying34, hv]

/-- A digest's words in a list. -/
def St.list (v : St) : List W := [v.a, v.b, v.c, v.d, v.e, v.f, v.g, v.h]
theorem St.bytes_eq (v : St) : v.bytes = (St.list v).flatMap four := by simp [St.bytes, St.list]
theorem St.cells_get (v : St) (k : Nat) (h : k < 8) : (St.cells v)[k]? = some (.int .u32 (((St.list v).getD k 0).toNat : Int)) := by
  match k, h with
  | 0, _ => rfl
  | 1, _ => rfl
  | 2, _ => rfl
  | 3, _ => rfl
  | 4, _ => rfl
  | 5, _ => rfl
  | 6, _ => rfl
  | 7, _ => rfl

theorem own_made2 (w : World) (o : Obj) (cur : Array Value) (cap : Nat) (hm : cap ≤ maxLen) (hs : cur.size = cap * 1) :
    ((w.alloc o).alloc (.cells cur 5)).ownsRow (w.heap.size + 1) 5 1 (.slice (some ⟨w.heap.size + 1, 0, none⟩) 0 cap) 0 [] := by
  have := World.ownsRow_made (e := 5) (base := w.heap.size + 1) (w.alloc o) cur cap (by simp) hm hs
  rwa [World.size_alloc] at this

theorem news_new (w : World) (cs : Array Value) (t : TypeId) (news : List Value) (h : cs.toList = news) :
    ∀ j u, news[j]? = some u → (w.alloc (.cells cs t)).cell? ((⟨w.heap.size, 0, none⟩ : Addr).add j) = some u := by
  intro j u hj
  rw [Addr.add_mid, cell_of_row _ _ _ cs t (0, 0) (heap_alloc_new w _)]
  subst h
  simpa using hj

theorem four_vals (x : W) : (four x).map u8v = [.int .u8 ((x.toNat : Int) / 16777216), .int .u8 ((x.toNat : Int) / 65536 % 256), .int .u8 ((x.toNat : Int) / 256 % 256), .int .u8 ((x.toNat : Int) % 256)] := by
  have := x.isLt
  simp only [four, List.map_cons, List.map_nil, u8v, UInt8.toNat_ofNat']
  simp
  omega

theorem take_four (v : St) (k : Nat) (h : k < 8) : ((((St.list v).take (k + 1)).flatMap four).map u8v) = ((((St.list v).take k).flatMap four).map u8v) ++ (four ((St.list v).getD k 0)).map u8v := by
  have hl : k < (St.list v).length := h
  rw [List.take_succ_eq_append_getElem hl, List.flatMap_append, List.map_append, List.getD_eq_getElem?_getD, List.getElem?_eq_getElem hl]
  simp

def zeros32 : Array Value := (List.replicate 32 (Value.int .u8 0)).toArray
theorem make32 (w : World) : (Instr.makeSlice 32 (.int .i64 0) (.int .i64 32)).run Try.prog w = .ok (.slice (some ⟨w.heap.size, 0, none⟩) 0 32) (w.alloc (.cells zeros32 5)) := by kernel_rfl

set_option maxHeartbeats 1000000 in
theorem text_any (v : St) (w : World) :
    Calls Try.prog 31 #[.agg (St.cells v)] w fun e w' => e = .returned (.string (str v.bytes)) ∧ Below w.heap.size w w' := by
  have hget := fun k h w => run_index8 (St.cells v) k h _ (St.cells_get v k h) w
  have HG := Lib.hid hget
  clear hget
  obtain ⟨i0, hi, hz0, hz1, hz2⟩ := info_parts Try.info5
  have hmk := make32
  simp only [St.cells] at HG ⊢
  go_enter Try.func31, Try.ntmps31
  go_wp2
  go_loopw [3, 5, 8] (fun b _ i wr => ∃ k : Nat, k ≤ 8 ∧ i = .int .i64 k ∧ wr.ownsRow (w.heap.size + 1) 5 1 b (4 * k) ((((St.list v).take k).flatMap four).map u8v) ∧ Below w.heap.size w wr)
    (fun _ _ i _ => 8 - (intOf i).toNat)
  case atStart => exact ⟨0, by omega, rfl, own_made2 _ _ zeros32 32 (by decide) rfl, ((Below.refl _ _).alloc (Nat.le_refl _) _).alloc (by simp) _⟩
  case round =>
    obtain ⟨k, hk, rfl, hown, hb⟩ := hrel
    by_cases hlt : k < 8
    · have hidx := HG.out k hlt
      generalize hx : (St.list v).getD k 0 = x at *
      have HX := Lib.hid hx
      clear hx
      go_wp2_with (at_builtin; refine wpList_append_own _ rfl _ _ 32 rfl (w.heap.size + 1) 5 i0 (.int .u8 0) 1 1 Try.underlying32 hi hz0 hz1 hz2 rfl (by decide) _ _ _ rfl (hown.alloc _) ⟨wr.heap.size, 0, none⟩ 4 4 ((four x).map u8v) rfl rfl (news_new _ _ _ _ (four_vals x).symm) (u8v_one _) (by unfold maxLen; omega) (by omega) (by have := hb.size; simp; omega) ?_)
      intro v' w1 hown1 hgrow _
      have hn := take_four v k hlt
      rw [HX.out] at hn
      have h4 : 4 * (k + 1) = 4 * k + 4 := by omega
      have hb1 : Below w.heap.size w w1 := (hb.alloc hb.size _).grown hgrow (by have := hb.size; simp; omega) (fun g hg => by have := (hown.lt g hg).1; omega)
      have Hown := Lib.hid hown1
      have HN := Lib.hid hn
      have H4 := Lib.hid h4
      clear hown1 hn h4 hgrow hown hidx
      go_wp2
      go_roundw
      case rel => exact ⟨k + 1, by omega, by go_num, by rw [HN.out, H4.out]; exact Hown.out, hb1⟩
      case measure => simp [intOf]; omega
    · obtain rfl : k = 8 := by omega
      have hconv := run_convert_bytes wr _ _ (.of_own hown)
      rw [show (St.list v).take 8 = St.list v from rfl, ← St.bytes_eq] at hconv
      go_wp2
      go_ret
      exact ⟨rfl, hb⟩
end Go.Proofs.Ythlppmhkdincgaa
