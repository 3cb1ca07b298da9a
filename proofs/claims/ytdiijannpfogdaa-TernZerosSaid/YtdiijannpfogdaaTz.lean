/- Split: the walk. -/
import Derived.Test.YtdiijannpfogdaaRow
import Derived.Test.YtdiijannpfogdaaLw
import Derived.Deep.Onto
namespace Go.Proofs.Ytdiijannpfogdaa.Tn
open Go.RowKit
attribute [local go_sem] cv cs wv
theorem own_below {w w' : World} {base : Nat} {e : TypeId} {size : Nat} {v : Value} {n : Nat} {xs : List Value} {B : Nat} (h : w.ownsRow base e size v n xs) (hb : Below B w w') (hB : w.heap.size ≤ B) : w'.ownsRow base e size v n xs := by
  refine ⟨h.1, ?_⟩
  rcases h.2 with hn | ⟨g, cap, cur, hv, hbb, hg, rest⟩
  · exact .inl hn
  · have hlt := (Array.getElem?_eq_some_iff.1 hg).1
    exact .inr ⟨g, cap, cur, hv, hbb, (hb.block g (by omega)).trans hg, rest⟩
theorem own_put {w w' : World} {base : Nat} {e : TypeId} {size : Nat} {v : Value} {n : Nat} {xs : List Value} {g : Nat} (h : w.ownsRow base e size v n xs) (hg : w.grownBy w' (some g)) (hlt : g < base) : w'.ownsRow base e size v n xs := by
  refine h.kept hg ?_
  cases hv : v.ownBlock with
  | none => exact .inl rfl
  | some k => exact .inr fun e => by have := (h.lt k hv).1; cases e; omega
theorem own_ne {w : World} {base : Nat} {e : TypeId} {size : Nat} {v : Value} {n : Nat} {xs : List Value} {g : Nat} (h : w.ownsRow base e size v n xs) (hlt : g < base) : some g ≠ v.ownBlock := fun e => by
  have := (h.lt g e.symm).1; omega
theorem own_one (w : World) (t : TypeId) (cs : Array Value) {B : Nat} (hB : B ≤ w.heap.size) : (w.alloc (.cells cs t)).ownsRow B t cs.size (.slice (some ⟨w.heap.size, 0, none⟩) 1 1) 1 cs.toList := by
  refine ⟨by simp, .inr ⟨_, 1, cs, rfl, hB, heap_alloc_new w _, Nat.le_refl _, by decide, by simp, ?_⟩⟩
  simp [← Array.length_toList]
theorem row_ne {w : World} {base : Nat} {e : TypeId} {size : Nat} {v : Value} {n : Nat} {xs : List Value} (h : w.ownsRow base e size v n xs) : v.ownBlock ≠ some w.heap.size := fun e => by
  have := (h.lt _ e).2; omega
theorem pre_at (i : Nat) (f g : Nat → Bool) : pre i f g i = f i := by simp [pre]
theorem at_lit_care {B i n : Nat} {c o : Nat → Bool} {t : TypeId} {w : World} (hi : i < 256) (h : Blk w B t (cs n c o)) (b : Bool) (hb : c i = b) :
    Calls Try.prog 68 #[.pointer (some ⟨B, 1, none⟩), .int .i64 (i : Int)] w fun e w' => e = .returned (.bool b) ∧ w = w' := by
  rw [← hb]; exact at_care B i n c o t w hi h
theorem at_lit_ones {B i n : Nat} {c o : Nat → Bool} {t : TypeId} {w : World} (hi : i < 256) (h : Blk w B t (cs n c o)) (b : Bool) (hb : o i = b) :
    Calls Try.prog 68 #[.pointer (some ⟨B, 5, none⟩), .int .i64 (i : Int)] w fun e w' => e = .returned (.bool b) ∧ w = w' := by
  rw [← hb]; exact at_ones B i n c o t w hi h
theorem crow_nil (w : World) (B : Nat) : w.ownsRow B 30 9 (.slice none 0 0) 0 (crow []) := World.ownsRow_nil w B 30 9
set_option maxHeartbeats 4000000 in
theorem split_yes {t u : List UInt8} {n : Nat} {c o d p : Nat → Bool} (h : Cub t n c o) (h' : Cub u n d p) (hok : meetOk t u) (w : World) :
    Calls Try.prog 48 #[cv n c o, cv n d p] w fun e w' => ∃ v, e = .returned v ∧ w'.ownsRow w.heap.size 30 9 v (partsT t u n).length (crow (partsT t u n)) ∧ Below w.heap.size w w' := by
  have HNO := Lib.hid ((noconf_iff h h').1 hok.2)
  have HOK := Lib.hid (decide_eq_true hok)
  have H := Lib.hid h
  have H' := Lib.hid h'
  have hn := h.nrm.le
  clear h h' hok
  unfold cv cs wv
  go_enter Try.func48, Try.ntmps48
  go_wp2_with fail
  refine (meet_any H.out H'.out _).mono ?_
  rw [HOK.out]
  rintro e w1 ⟨n3, c3, o3, hC3, rfl, hb1⟩
  clear hC3
  have h1 : Blk w1 w.heap.size 30 (cs n c o) := ((Blk.new w 30 (cs n c o)).alloc _).below hb1 (by simp; omega)
  have h2 : Blk w1 (w.heap.size + 1) 30 (cs n d p) := by
    have := (Blk.new (w.alloc (.cells (cs n c o) 30)) 30 (cs n d p)).below hb1 (by simp)
    rw [World.size_alloc] at this
    exact this
  have hbel : Below w.heap.size w w1 := Below.trans (by go_grown) (hb1.mono (by simp; omega))
  have hz : w.heap.size + 2 ≤ w1.heap.size := by have := hb1.size; simp at this; omega
  clear hb1
  have hc1 := h1.cell
  have h1 := h1.alloc (.cells (cs n3 c3 o3) 30)
  have h2 := h2.alloc (.cells (cs n3 c3 o3) 30)
  have hbel := bal hbel (.cells (cs n3 c3 o3) 30)
  have hl1 : w.heap.size < w1.heap.size := by omega
  have hl2 : w.heap.size ≠ w1.heap.size := by omega
  go_wp2_with fail
  clear hc1 hl1 hl2
  generalize hB0 : w1.heap.size + 1 = B0
  go_loopw [7, 22] (fun v i wr => ∃ k : Nat, k ≤ n ∧ i = .int .i64 k ∧ Blk wr w.heap.size 30 (cs n (pre k c (bor c d)) (pre k o (bor o p))) ∧ Blk wr (w.heap.size + 1) 30 (cs n d p) ∧ B0 ≤ wr.heap.size ∧ wr.ownsRow B0 30 9 v (partsT t u k).length (crow (partsT t u k)) ∧ Below w.heap.size w wr) (fun _ i _ => n - (intOf i).toNat)
  case atStart => exact ⟨0, Nat.zero_le _, rfl, by rw [pre_zero, pre_zero]; exact h1, h2, by rw [World.size_alloc]; omega, crow_nil _ _, hbel⟩
  case round =>
    clear h1 h2 hbel
    obtain ⟨k, hk, rfl, h1, h2, hB, hown, hbel⟩ := hrel
    by_cases hlt : k < n
    · have hk256 : k < 256 := by omega
      have hpl := partsT_le t u k
      have sp := splits_iff H.out H'.out k hlt
      have e1 : pre k c (bor c d) k = c k := pre_at ..
      by_cases hs : c k = false ∧ d k = true
      · have HS := Lib.hid hs
        have HSP := Lib.hid (show splits t u k = true by rw [sp, hs.1, hs.2]; rfl)
        have ka := at_lit_care hk256 h1 false (e1.trans hs.1)
        have kd := at_lit_care hk256 h2 true hs.2
        have HBD := Lib.hid (show bor c d k = true by simp [bor, hs.2])
        clear sp e1 hs
        go_wp2_with (first | (go_at_call 68; with_reducible refine ka.mono ?_; rintro e w' ⟨rfl, rfl⟩) | (go_at_call 68; with_reducible refine kd.mono ?_; rintro e w' ⟨rfl, rfl⟩) | (go_at_call 65; refine (put_care w.heap.size k n _ _ _ _ hk256 h1).mono ?_; rintro e w2 ⟨rfl, hp1, hg1⟩; rw [pre_put HBD.out] at hp1; have hc1 := hp1.cell; have hl1 := hp1.lt))
        clear ka kd
        have hq2 := h2.grown hg1 (by simp)
        have hown2 := own_put hown hg1 (by omega)
        have hbel2 := hbel.grown hg1 hbel.size (fun j hj => by cases hj; exact Nat.le_refl _)
        have hB2 := Nat.le_trans hB hg1.size
        clear h1 h2 hown hbel hg1 hB
        clear hc1 hl1
        have hq1 := hp1.alloc (.cells (cs n (pre (k + 1) c (bor c d)) (pre k o (bor o p))) 30)
        have hq3 := Blk.new w2 30 (cs n (pre (k + 1) c (bor c d)) (pre k o (bor o p)))
        have hq2 := hq2.alloc (.cells (cs n (pre (k + 1) c (bor c d)) (pre k o (bor o p))) 30)
        have hown0 := hown2
        have hown2 := hown2.alloc (.cells (cs n (pre (k + 1) c (bor c d)) (pre k o (bor o p))) 30)
        have hbel2 := bal hbel2 (.cells (cs n (pre (k + 1) c (bor c d)) (pre k o (bor o p))) 30)
        have hne9 : w.heap.size ≠ w2.heap.size := by omega
        have hne9' : w2.heap.size ≠ w.heap.size := by omega
        have hB3 : B0 ≤ (w2.alloc (.cells (cs n (pre (k + 1) c (bor c d)) (pre k o (bor o p))) 30)).heap.size := by rw [World.size_alloc]; omega
        have hB4 : w.heap.size ≤ w2.heap.size := by omega
        have ho1 : pre k o (bor o p) k = o k := pre_at ..
        have hok0 : o k = false := by
          cases hoi : o k with
          | false => rfl
          | true => have := H.out.nrm.sub k hoi; rw [HS.out.1] at this; cases this
        by_cases hp : p k = true
        · refine (at_lit_ones hk256 hq2 true hp).mono ?_
          rintro e w' ⟨rfl, rfl⟩
          have hbo : bor o p k = true := by simp [bor, hp]
          have HPT : Hid (Cub (partT t u k) n (pre (k + 1) c (bor c d)) (pre k o (bor o p))) := Lib.hid (part_cub H.out H'.out HNO.out hlt HS.out.1 HS.out.2 (fun j => by
            by_cases e : j = k
            · subst e; rw [if_pos rfl, ho1, hok0, hp]; rfl
            · rw [if_neg e]))
          go_wp2_with (first | (go_at_call 65; refine (put_ones w.heap.size k n _ _ _ _ hk256 hq1).mono ?_; rintro e w3 ⟨rfl, hr1, hg3⟩; have hr3 := hq3.grown hg3 (by simpa using hne9'); have hc9 := hr3.cell; have hown3 := own_put hown2 hg3 (by omega); have hB5 := Nat.le_trans hB3 hg3.size) | (at_builtin; refine app_cube HPT.out hown3 rfl rfl rfl rfl (by omega) hB5 ?_; intro v' w4 hown4 hb4 hk4))
          go_roundw
          case rel =>
            have z1 := hk4 w.heap.size 30 (cs n (pre (k + 1) c (bor c d)) (pre (k + 1) o (bor o p))) (own_ne hown3 (by omega)) (by rw [pre_put hbo] at hr1; exact hr1)
            have z2 := hk4 (w.heap.size + 1) _ _ (own_ne hown3 (by omega)) (hq2.grown hg3 (by simp <;> omega))
            rw [← partsT_yes HSP.out] at hown4
            refine ⟨k + 1, by omega, by go_num, z1, z2, Nat.le_trans hB5 hb4.size, ?_, ?_⟩
            · rw [partsT_yes HSP.out, List.length_append, List.length_singleton, ← partsT_yes HSP.out]
              exact hown4
            · exact Below.trans (hbel2.grown hg3 hbel2.size (fun j hj => by cases hj; omega)) (hb4.mono (by omega))
          case measure => simp [intOf]; omega
        · have hp : p k = false := by simpa using hp
          refine (at_lit_ones hk256 hq2 false hp).mono ?_
          rintro e w' ⟨rfl, rfl⟩
          have hbo : bor o p k = o k := by simp [bor, hp]
          have HPT : Hid (Cub (partT t u k) n (pre (k + 1) c (bor c d)) (put (pre k o (bor o p)) k)) := Lib.hid (part_cub H.out H'.out HNO.out hlt HS.out.1 HS.out.2 (fun j => by
            by_cases e : j = k
            · subst e; rw [if_pos rfl, hp]; simp [put]
            · rw [if_neg e]; simp [put, e]))
          go_wp2_with (first | (go_at_call 65; refine (put_ones w2.heap.size k n _ _ _ _ hk256 hq3).mono ?_; rintro e w3 ⟨rfl, hr3, hg3⟩; have hc9 := hr3.cell; have hown3 := hown2.kept hg3 (.inr (row_ne hown0)); have hB5 := Nat.le_trans hB3 hg3.size) | (at_builtin; refine app_cube HPT.out hown3 rfl rfl rfl rfl (by omega) hB5 ?_; intro v' w4 hown4 hb4 hk4))
          go_roundw
          case rel =>
            have z1 := hk4 w.heap.size 30 (cs n (pre (k + 1) c (bor c d)) (pre (k + 1) o (bor o p))) (own_ne hown3 (by omega)) (by rw [pre_stay hbo]; exact hq1.grown hg3 (by simpa using hne9))
            have z2 := hk4 (w.heap.size + 1) _ _ (own_ne hown3 (by omega)) (hq2.grown hg3 (by simp <;> omega))
            rw [← partsT_yes HSP.out] at hown4
            refine ⟨k + 1, by omega, by go_num, z1, z2, Nat.le_trans hB5 hb4.size, ?_, ?_⟩
            · rw [partsT_yes HSP.out, List.length_append, List.length_singleton, ← partsT_yes HSP.out]
              exact hown4
            · exact Below.trans (hbel2.grown hg3 hbel2.size (fun j hj => by cases hj; omega)) (hb4.mono (by omega))
          case measure => simp [intOf]; omega
      · have e2 : bor c d k = c k := by
          cases hc : c k with
          | true => simp [bor, hc]
          | false =>
            cases hd : d k with
            | true => exact absurd ⟨hc, hd⟩ hs
            | false => simp [bor, hc, hd]
        have HSP := Lib.hid (show splits t u k = false by rw [sp]; cases hc : c k <;> cases hd : d k <;> simp_all)
        have e3 : bor o p k = o k := by
          cases hpk : p k with
          | false => simp [bor, hpk]
          | true =>
            have hd := H'.out.nrm.sub k hpk
            have hc : c k = true := by
              cases hc : c k with
              | true => rfl
              | false => exact absurd ⟨hc, hd⟩ hs
            have ho := noconf_at HNO.out H.out k hc hd hpk
            simp [bor, ho]
        have E2 := Lib.hid e2
        have E3 := Lib.hid e3
        by_cases hck : c k = true
        · have ka := at_lit_care hk256 h1 true (e1.trans hck)
          clear sp e1 hs e2 e3 hck
          go_wp2_with (first | (go_at_call 68; with_reducible refine ka.mono ?_; rintro e w' ⟨rfl, rfl⟩))
          go_roundw
          case rel => exact ⟨k + 1, by omega, by go_num, by rw [pre_stay E2.out, pre_stay E3.out]; exact h1, h2, hB, by rw [partsT_no HSP.out]; exact hown, hbel⟩
          case measure => simp [intOf]; omega
        · have hck : c k = false := by simpa using hck
          have hdk : d k = false := by
            cases hd : d k with
            | true => exact absurd ⟨hck, hd⟩ hs
            | false => rfl
          have ka := at_lit_care hk256 h1 false (e1.trans hck)
          have kd := at_lit_care hk256 h2 false hdk
          clear sp e1 hs e2 e3 hck hdk
          go_wp2_with (first | (go_at_call 68; with_reducible refine ka.mono ?_; rintro e w' ⟨rfl, rfl⟩) | (go_at_call 68; with_reducible refine kd.mono ?_; rintro e w' ⟨rfl, rfl⟩))
          go_roundw
          case rel => exact ⟨k + 1, by omega, by go_num, by rw [pre_stay E2.out, pre_stay E3.out]; exact h1, h2, hB, by rw [partsT_no HSP.out]; exact hown, hbel⟩
          case measure => simp [intOf]; omega
    · obtain rfl : k = n := by omega
      go_wp2
      go_ret
      exact ⟨_, rfl, hown.mono (by omega), hbel⟩
set_option maxHeartbeats 1000000 in
theorem split_no {t u : List UInt8} {n m : Nat} {c o d p : Nat → Bool} (h : Cub t n c o) (h' : Cub u m d p) (hok : ¬ meetOk t u) (w : World) :
    Calls Try.prog 48 #[cv n c o, cv m d p] w fun e w' => ∃ v, e = .returned v ∧ w'.ownsRow w.heap.size 30 9 v 1 (crow [t]) ∧ Below w.heap.size w w' := by
  have HOK := Lib.hid (decide_eq_false hok)
  have H := Lib.hid h
  have H' := Lib.hid h'
  clear h h' hok
  unfold cv cs wv
  go_enter Try.func48, Try.ntmps48
  go_wp2_with fail
  refine (meet_any H.out H'.out _).mono ?_
  rw [HOK.out]
  rintro e w1 ⟨n3, c3, o3, hC3, rfl, hb1⟩
  clear hC3
  have h1 : Blk w1 w.heap.size 30 (cs n c o) := ((Blk.new w 30 (cs n c o)).alloc _).below hb1 (by simp; omega)
  have hbel : Below w.heap.size w w1 := Below.trans (by go_grown) (hb1.mono (by simp; omega))
  have hz : w.heap.size + 2 ≤ w1.heap.size := by have := hb1.size; simp at this; omega
  clear hb1
  have hc1 := h1.cell
  have hl1 : w.heap.size < w1.heap.size := by omega
  have hl2 : w.heap.size ≠ w1.heap.size := by omega
  go_wp2_with fail
  go_ret
  have hx := own_one (w1.alloc (.cells (cs n3 c3 o3) 30)) 30 (cs n c o) (B := w.heap.size) (by rw [World.size_alloc]; omega)
  rw [H.out.cells] at hx
  rw [← show crow [t] = ccells t by simp [crow], World.size_alloc] at hx
  exact ⟨_, rfl, hx, (bal (bal hbel _) _)⟩
theorem split_any {t u : List UInt8} {n m : Nat} {c o d p : Nat → Bool} (h : Cub t n c o) (h' : Cub u m d p) (w : World) :
    Calls Try.prog 48 #[cv n c o, cv m d p] w fun e w' => ∃ v, e = .returned v ∧ w'.ownsRow w.heap.size 30 9 v (splitT t u).length (crow (splitT t u)) ∧ Below w.heap.size w w' := by
  unfold splitT
  by_cases hok : meetOk t u
  · obtain ⟨rfl, h0⟩ := (fit_iff h h').1 hok.1
    rw [if_pos hok, ← h.hn]
    exact split_yes h h' hok w
  · rw [if_neg hok]
    exact split_no h h' hok w
end Go.Proofs.Ytdiijannpfogdaa.Tn
