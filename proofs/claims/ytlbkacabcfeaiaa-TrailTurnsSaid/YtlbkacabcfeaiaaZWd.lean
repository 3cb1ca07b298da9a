/- Patterns: the program writes sequences and choices. Printed by mkwr.py. -/
import Derived.Test.YtlbkacabcfeaiaaZWc
import Derived.Test.YtlbkacabcfeaiaaShelf
namespace Go.Proofs.Ytlbkacabcfeaiaa.Tl
open Go.RowKit Mm
set_option linter.unusedVariables false
theorem info_str : (Try.prog.info? 9).map (fun i => (i.zero, i.size, i.bytes)) = some (some (.string .empty), 1, 16) := by kernel_rfl
def sv (l : List (List UInt8)) : List Value := l.map fun x => .string (str x)
/-- the words so far -/
structure Ws (w : World) (v : Value) (l : List (List UInt8)) (X : World) : Prop where
  bel : Below w.heap.size w X
  row : X.ownsRow w.heap.size 9 1 v l.length (sv l)
theorem Ws.start (w : World) : Ws w (.slice none 0 0) [] w := ⟨Below.refl _ _, World.ownsRow_nil w w.heap.size 9 1⟩
theorem Ws.below {w X Y : World} {v : Value} {l : List (List UInt8)} (h : Ws w v l X) (hb : Below X.heap.size X Y) : Ws w v l Y := ⟨h.bel.trans (hb.mono h.bel.size), own_below h.row hb (Nat.le_refl _)⟩
theorem Ws.push {w X : World} {v : Value} {l : List (List UInt8)} {z : ByteArray} {x : List UInt8} (hz : z = str x) (h : Ws w v l X) (hl : l.length ≤ 100000) {ops : Array Oper} {rest : List Oper} {o : Oper} {a : Act} {Q : Exit → Act → World → Prop} {s y : Operand}
    (hgd : o.guard = none) (ho : o.op = .call { callee := .builtin .append, args := #[s, y], argTypes := #[35, 35] })
    (hs : a.eval s = v) (hx : a.eval y = .slice (some ⟨X.heap.size, 0, none⟩) 1 1)
    (k : ∀ v' w', Ws w v' (l ++ [x]) w' → wpList Try.prog ops Q rest (a.put o.dst v') w') : wpList Try.prog ops Q (o :: rest) a (X.alloc (.cells #[.string z] 9)) := by
  subst hz
  obtain ⟨i0, hi, hz0, hz1, hz2⟩ := info_parts info_str
  have hB : w.heap.size ≤ X.heap.size := h.bel.size
  refine wpList_append_own _ hgd s y 35 ho w.heap.size 9 i0 _ 1 16 Try.underlying35 hi hz0 hz1 hz2 rfl (by decide) v l.length _ hs (h.row.alloc _) ⟨X.heap.size, 0, none⟩ 1 1 [.string (str x)] hx rfl (cells_new _ #[.string (str x)] _) (by simp [Value.oneCell']) (by simp only [maxLen]; omega) (by omega) (by rw [World.size_alloc]; omega) (fun v' w' h2 h3 _ => k v' w' ⟨?_, ?_⟩)
  · exact (bal h.bel _).trans (below_grown (h.row.alloc _) h3 (by rw [World.size_alloc]; omega))
  · have : sv (l ++ [x]) = sv l ++ [.string (str x)] := by simp [sv]
    rw [this, List.length_append]
    exact h2
theorem Ws.len {w X : World} {v : Value} {l : List (List UInt8)} (h : Ws w v l X) : ∃ a cap, v = .slice a l.length cap := own_len h.row
/-- joined -/
theorem Ws.join {w X : World} {a : Option Addr} {cap : Nat} {l : List (List UInt8)} (h : Ws w (.slice a l.length cap) l X) (sep : List UInt8) (hl : (Lib.join l sep).length ≤ 100000) (hn : l.length ≤ 100000) :
    Calls Try.prog 77 #[.slice a l.length cap, .string ⟨sep.toArray⟩] X fun e w' => e = .returned (.string (str (Lib.join l sep))) ∧ Below w.heap.size w w' := by
  by_cases h0 : l.length = 0
  · have hl0 : l = [] := List.eq_nil_of_length_eq_zero h0
    subst hl0
    refine (Try.strings_Join_none a cap ⟨sep.toArray⟩ X).mono ?_
    rintro e w' ⟨rfl, rfl⟩
    exact ⟨by rw [Lib.join_nil]; rfl, h.bel⟩
  · obtain ⟨g, cap', hv, _, hlt⟩ := own_form h.row (by omega)
    cases hv
    have hm : (l.map str).map (·.data.toList) = l := by rw [List.map_map]; exact List.map_id l
    have hc : l.length ≤ cap := by
      rcases h.row.2 with ⟨hv, _⟩ | ⟨g', cap', cur, hv, _, _, hc, _, _⟩
      · cases hv
      · cases hv; exact hc
    have hj := Try.strings_Join g 0 cap (l.map str) ⟨sep.toArray⟩ X (fun j x hj => by
      have h2 := h.row.cells (g := g) rfl j (.string x) (by
        rw [List.getElem?_map] at hj
        unfold sv
        rw [List.getElem?_map]
        cases hq : l[j]? with
        | none => rw [hq] at hj; cases hj
        | some y => rw [hq] at hj; cases hj; rfl)
      rw [add_off] at h2
      rw [Nat.zero_add]
      exact h2) hlt (by rw [List.length_map]; omega) (by rw [List.length_map]; exact hc) (by rw [hm]; show (Lib.join l sep).length ≤ _; omega)
    rw [hm, List.length_map] at hj
    refine hj.mono ?_
    rintro e w' ⟨rfl, hb⟩
    exact ⟨rfl, h.bel.trans (hb.mono h.bel.size)⟩
set_option maxRecDepth 100000 in
set_option maxHeartbeats 8000000 in
theorem sequence_write {l : List T} (hall : ∀ t ∈ l, WrC t) (hb : bdL l ≤ 90000) (w : World) (S : Nat → Prop) (u : Value) (vs : List Value) (hf : Fz w 57 1 u l.length vs) (hA : AllT w S vs l) :
    Calls Try.prog 76 #[u] w fun e w' => e = .returned (.string (str (txt (.seq l)))) ∧ Below w.heap.size w w' := by
  obtain ⟨a0, cap, rfl, hcap, hcm⟩ := hf.form
  unfold maxLen at hcm
  have HC := Lib.hid (fun h : 0 < l.length => Fz.cells hf h)
  have HA := Lib.hid hA
  have HW := Lib.hid hall
  have hlen := bdL_len l
  have htl : (txtS l).length = l.length := by rw [txtS_map, List.length_map]
  have HT := Lib.hid (show ∀ k (h : k < l.length), txtS (l.take (k + 1)) = txtS (l.take k) ++ [brk (isAlt l[k]) (txt l[k])] from fun k h => by
    rw [txtS_map, txtS_map, List.take_succ_eq_append_getElem h, List.map_append]
    rfl)
  have HK := Lib.hid (show ∀ k, k ≤ l.length → (txtS (l.take k)).length = k from fun k h => by rw [txtS_map, List.length_map, List.length_take]; omega)
  have hjl : (Lib.join (txtS l) [32]).length + 6 ≤ bd (.seq l) := by have := txt_bd (.seq l); rw [txt] at this; exact this
  have hbd : bd (.seq l) = bdL l + 8 := rfl
  have HJ := Lib.hid (show txt (.seq l) = Lib.join (txtS l) [32] from by rw [txt])
  clear hf hA hall
  go_enter Try.func76, Try.ntmps76
  go_wp2_with fail
  go_loopw [3, 8] (fun s i wr => ∃ k : Nat, k ≤ l.length ∧ i = .int .i64 (k : Int) ∧ Ws w s (txtS (l.take k)) wr) (fun _ i _ => l.length - (intOf i).toNat)
  case atStart => exact ⟨0, Nat.zero_le _, rfl, Ws.start w⟩
  case round =>
    obtain ⟨k, hk, rfl, hws⟩ := hrel
    have HF := Lib.hid hws
    have hkl := HK.out k hk
    by_cases hlt : k < l.length
    · obtain ⟨g, rfl, hg, hc⟩ := HC.out (by omega)
      obtain ⟨v, hv, ht⟩ := HA.out.at hlt
      have q := hc k v hv
      have q0 : wr.cell? ⟨g, k, none⟩ = some v := (Below.cell hws.bel (p := ⟨g, k, none⟩) hg).trans q
      have HS := Lib.hid (HT.out k hlt)
      have hwt := HW.out _ (List.getElem_mem hlt)
      have hbt := bdL_mem (List.getElem_mem hlt)
      have ht2 := ht.keep (w' := wr) (fun _ h => h) (fun g _ hg => hws.bel.block g hg)
      clear hws hc hv q ht
      generalize l[k] = t at *
      obtain ⟨ty, pay, rfl⟩ := ht2.form
      have HX := Lib.hid (hwt wr S ty pay ht2)
      have HBr := Lib.hid (fun (X : World) (h : IsT X S (.iface ty pay) t) => bracketed_any hwt (by omega) X S _ h)
      have HI := Lib.hid ht2
      cases ht2 with
      | alt u1 us rs hf1 hs1 hx1 =>
        go_wp2_with fail
        refine (HBr.out _ HI.out).mono ?_
        rintro e w3 ⟨rfl, hb3⟩
        have HF2 := Lib.hid (HF.out.below hb3)
        clear hb3
        go_wp2_with first | refine Ws.push rfl HF2.out (by omega) rfl rfl rfl rfl (fun v' w' HF3 => ?_) | fail
        rename_i HF3
        have HF4 := Lib.hid HF3
        clear HF3
        go_wp2_with fail
        go_roundw
        case rel => exact ⟨k + 1, by omega, by go_num, by rw [HS.out]; exact HF4.out⟩
        case measure => simp [intOf]; omega
      | leaf tx n p d =>
        have hno := fun p w => as_alt_no 87 p w (by decide)
        go_wp2_with fail
        refine HX.out.mono ?_
        rintro e w3 ⟨rfl, hb3⟩
        have HF2 := Lib.hid (HF.out.below hb3)
        clear hb3
        go_wp2_with first | refine Ws.push rfl HF2.out (by omega) rfl rfl rfl rfl (fun v' w' HF3 => ?_) | fail
        rename_i HF3
        have HF4 := Lib.hid HF3
        clear HF3
        go_wp2_with fail
        go_roundw
        case rel => exact ⟨k + 1, by omega, by go_num, by rw [HS.out]; exact HF4.out⟩
        case measure => simp [intOf]; omega
      | suf v1 t1 s1 h1 =>
        have hno := fun p w => as_alt_no 84 p w (by decide)
        go_wp2_with fail
        refine HX.out.mono ?_
        rintro e w3 ⟨rfl, hb3⟩
        have HF2 := Lib.hid (HF.out.below hb3)
        clear hb3
        go_wp2_with first | refine Ws.push rfl HF2.out (by omega) rfl rfl rfl rfl (fun v' w' HF3 => ?_) | fail
        rename_i HF3
        have HF4 := Lib.hid HF3
        clear HF3
        go_wp2_with fail
        go_roundw
        case rel => exact ⟨k + 1, by omega, by go_num, by rw [HS.out]; exact HF4.out⟩
        case measure => simp [intOf]; omega
      | seq u1 us rs hf1 hs1 hx1 =>
        have hno := fun p w => as_alt_no 98 p w (by decide)
        go_wp2_with fail
        refine HX.out.mono ?_
        rintro e w3 ⟨rfl, hb3⟩
        have HF2 := Lib.hid (HF.out.below hb3)
        clear hb3
        go_wp2_with first | refine Ws.push rfl HF2.out (by omega) rfl rfl rfl rfl (fun v' w' HF3 => ?_) | fail
        rename_i HF3
        have HF4 := Lib.hid HF3
        clear HF3
        go_wp2_with fail
        go_roundw
        case rel => exact ⟨k + 1, by omega, by go_num, by rw [HS.out]; exact HF4.out⟩
        case measure => simp [intOf]; omega
    · obtain rfl : k = l.length := by omega
      rw [List.take_length] at HF
      clear hws
      obtain ⟨a1, c1, rfl⟩ := HF.out.len
      have HJn := Lib.hid (HF.out.join [32] (by omega) (by omega))
      clear htl hjl hbd hkl HK HT HF
      generalize txtS l = L at *
      go_wp2_with fail
      refine HJn.out.mono ?_
      rintro e w' ⟨rfl, hb2⟩
      have HB := Lib.hid hb2
      clear hb2
      go_wp2_with fail
      go_ret
      exact ⟨by rw [HJ.out]; rfl, HB.out⟩
end Go.Proofs.Ytlbkacabcfeaiaa.Tl
