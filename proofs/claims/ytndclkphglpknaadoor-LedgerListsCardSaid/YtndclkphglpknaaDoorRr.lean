/- The document's Read. -/
import Derived.Test.YtndclkphglpknaaDoorRd
namespace Go.Proofs.YtndclkphglpknaaDoor.Lg
open Go.RowKit Mm
theorem drewN_two (w : World) (a b : Nat) : (w.drewN a).drewN b = w.drewN (a + b) := World.drewN_drewN w a b
def torn0 (d : List UInt8) : Prop := bt d 0 ≠ 82 ∨ bt d 1 ≠ 76 ∨ bt d 3 ≠ 0 ∨ n4 d 12 ≠ crc (d.take 12)
instance (d : List UInt8) : Decidable (torn0 d) := by unfold torn0; infer_instance
theorem quiet_num {P : Program} {f : FuncId} {args : Array Value} {w : World} {n : Nat} {v : Value} (h : Calls P f args (w.drewN n) fun e w' => e = .returned v ∧ ∃ m, w' = (w.drewN n).drewN m) : Calls P f args (w.drewN n) fun e w'' => e = .returned v ∧ ∃ m, w'' = w.drewN m :=
  h.mono fun _ _ ⟨he, m, hm⟩ => ⟨he, n + m, by rw [hm, drewN_two]⟩
theorem rread_bad (l : List UInt8) (v : Value) (x : Int) (w : World) (hS : Sees w v (bytesV l)) (hx : x < 0 ∨ (l.length : Int) < x) :
    Calls Tryd.prog 13 #[v, .int .i64 x] w fun e w' => e = .returned (.tuple #[.agg #[.int .i64 0, .int .i64 0, .string (str [])], .int .i64 0, .int .i64 1]) ∧ Below w.heap.size w w' := by
  obtain ⟨a0, cap0, rfl, _, hcap, hcm, _⟩ := hS
  rw [bytesV_len] at hcap ⊢
  unfold maxLen at hcm
  rcases hx with hx | hx
  · go_enter Tryd.func13, Tryd.ntmps13
    go_wp2
    refine bodyPost_ret (v := .tuple #[.agg #[.int .i64 0, .int .i64 0, .string ⟨#[]⟩], .int .i64 0, .int .i64 1]) (by simp [results, Tryd.results13, go_sem]) rfl ⟨rfl, by go_grown⟩
  · have hx0 : 0 ≤ x := by omega
    go_enter Tryd.func13, Tryd.ntmps13
    go_wp2
    refine bodyPost_ret (v := .tuple #[.agg #[.int .i64 0, .int .i64 0, .string ⟨#[]⟩], .int .i64 0, .int .i64 1]) (by simp [results, Tryd.results13, go_sem]) rfl ⟨rfl, by go_grown⟩
theorem rread_short (l : List UInt8) (v : Value) (k : Nat) (w : World) (hS : Sees w v (bytesV l)) (hk : k ≤ l.length) (h16 : l.length < k + 16) :
    Calls Tryd.prog 13 #[v, .int .i64 (k : Int)] w fun e w' => e = .returned (.tuple #[.agg #[.int .i64 0, .int .i64 0, .string (str [])], .int .i64 0, .int .i64 191]) ∧ Below w.heap.size w w' := by
  obtain ⟨a0, cap0, rfl, hN, hcap, hcm, _⟩ := hS
  rw [bytesV_len] at hcap ⊢
  unfold maxLen at hcm
  have hkc : k ≤ cap0 := by omega
  cases a0 with
  | none =>
    have hc0 := hN rfl
    have hl0 : l.length = 0 := by omega
    have hk0 : k = 0 := by omega
    subst hk0
    rw [hl0, hc0]
    clear hN hcap hcm h16 hkc hk hc0 hl0
    go_enter Tryd.func13, Tryd.ntmps13
    go_wp2
    refine bodyPost_ret (v := .tuple #[.agg #[.int .i64 0, .int .i64 0, .string ⟨#[]⟩], .int .i64 0, .int .i64 191]) (by simp [results, Tryd.results13, go_sem]) rfl ⟨rfl, by go_grown⟩
  | some ad =>
    clear hN
    go_enter Tryd.func13, Tryd.ntmps13
    go_wp2
    all_goals refine bodyPost_ret (v := .tuple #[.agg #[.int .i64 0, .int .i64 0, .string ⟨#[]⟩], .int .i64 0, .int .i64 191]) (by simp [results, Tryd.results13, go_sem]) rfl ⟨rfl, by go_grown⟩
set_option maxRecDepth 100000 in
set_option maxHeartbeats 4000000 in
theorem rread_main (l : List UInt8) (v : Value) (k : Nat) (w : World) (hS : Sees w v (bytesV l)) (h16 : k + 16 ≤ l.length) :
    Calls Tryd.prog 13 #[v, .int .i64 (k : Int)] w fun e w' => e = .returned (readV l (k : Int)) ∧ Below w.heap.size w w' := by
  have HSW := Lib.hid hS
  obtain ⟨a0, cap0, rfl, hN, hcap, hcm, hx⟩ := hS
  have hbl := bytesV_len l
  rw [hbl] at hcap HSW ⊢
  unfold maxLen at hcm
  obtain ⟨g, off, rfl, hg, _⟩ : ∃ g off, a0 = some ⟨g, off, none⟩ ∧ g < w.heap.size ∧ ∀ j u, (bytesV l)[j]? = some u → w.cell? ⟨g, off + j, none⟩ = some u := by
    rcases hx with h0 | h0
    · rw [h0] at hbl; simp at hbl; omega
    · exact h0
  have hSd := sees_drop HSW.out (k := k) (by omega)
  have hkc : ¬ cap0 = k := by omega
  have hkc2 : k ≤ cap0 := by omega
  clear hx hN hbl HSW
  go_enter Tryd.func13, Tryd.ntmps13
  go_upto_region 4 with fail
  have hd : (l.drop k).length = l.length - k := by simp
  have hc16 : l.length - k ≤ cap0 - k := by omega
  have hcm' : cap0 - k ≤ 9223372036854775807 := by omega
  rw [← hd] at hSd hc16 ⊢
  have hlen : 16 ≤ (l.drop k).length := by omega
  have HLD := Lib.hid hd
  clear hd
  generalize hD : l.drop k = d at *
  have HDD := Lib.hid hD
  clear hD
  generalize cap0 - k = c at *
  generalize off + k = o at *
  go_upto_region 6 with fail
  generalize hW : World.alloc w _ = W
  have hSW : Sees W (.slice (some ⟨g, o, none⟩) d.length c) (bytesV d) := by rw [← hW]; exact hSd.alloc _
  have hZ : Blk W w.heap.size 40 rz := by rw [← hW]; exact Blk.new w _ _
  have hbW : Below w.heap.size w W := by rw [← hW]; go_grown
  clear hW hSd
  have q2 := sees_byte hSW (k := 2) (by omega)
  have y4 : 2 < d.length := by omega
  have hb2 : (bt d 2).toNat < 256 := by have := (bt d 2).toNat_lt; omega
  go_upto_region 7 with fail
  have hn4 := rnumber_any d _ W 4 4 rfl hSW (by omega)
  rw [show num4 ((d.drop 4).take 4) = n4 d 4 from rfl] at hn4
  have HN4 := Lib.hid hn4
  clear hn4 q2
  go_wp2_with fail
  refine HN4.out.mono ?_
  rintro e w' ⟨rfl, m1, rfl⟩
  have hn8 := rnumber_any d _ (W.drewN m1) 8 8 rfl (hSW.drewN _) (by omega)
  rw [show num4 ((d.drop 8).take 4) = n4 d 8 from rfl] at hn8
  have HN8 := Lib.hid hn8
  clear hn8 HN4
  go_wp2_with fail
  refine HN8.out.mono ?_
  rintro e w' ⟨rfl, m2, rfl⟩
  rw [drewN_two]
  generalize hV : W.drewN (m1 + m2) = V
  have hSV : Sees V (.slice (some ⟨g, o, none⟩) d.length c) (bytesV d) := by rw [← hV]; exact hSW.drewN _
  have hZV : Blk V w.heap.size 40 rz := by rw [← hV]; exact hZ.drewN _
  have hbwV : Below w.heap.size w V := by rw [← hV]; exact below_drewN hbW _
  clear HN8 hV hSW hZ hbW
  go_upto_region 9 with fail
  have hkl : k ≤ l.length := by omega
  have q0 := sees_byte hSV (k := 0) (by omega)
  have q1 := sees_byte hSV (k := 1) (by omega)
  have q3 := sees_byte hSV (k := 3) (by omega)
  rw [Nat.add_zero] at q0
  have z0n : 0 < d.length := by omega
  have z1n : 1 < d.length := by omega
  have z3n : 3 < d.length := by omega
  have z12d : 12 ≤ d.length := by omega
  have z12' : (12 : Int) ≤ (d.length : Int) := by omega
  have z12c : (12 : Int) ≤ (c : Int) := by omega
  have z12n : 12 ≤ c := by omega
  have HN12 := Lib.hid (fun (n : Nat) => quiet_num (n := n) (w := V) (show Calls Tryd.prog 22 _ (V.drewN n) (fun e w' => e = .returned (.int .i64 (n4 d 12 : Int)) ∧ ∃ m, w' = (V.drewN n).drewN m) from rnumber_any d _ (V.drewN n) 12 12 rfl (hSV.drewN n) (by omega)))
  have HS12 := Lib.hid (fun (n : Nat) => quiet_left (rsum_any (d.take 12) _ (V.drewN n) (sees_take (hSV.drewN n) (k := 12) (by omega))))
  go_cut [58] (fun s58 wx => s58 = .bool (decide (torn0 d)) ∧ ∃ n, wx = V.drewN n)
  case first =>
    by_cases c0 : bt d 0 ≠ 82
    · have HSP := Lib.hid (decide_eq_true (show torn0 d from .inl c0))
      have t0 : (((bt d 0).toNat : Int) != 82) = true := byte_ne c0
      clear c0
      go_quiet (fail)
      go_wp2_with fail
      go_meet
      exact ⟨by rw [HSP.out], _, rfl⟩
    have c0 : bt d 0 = 82 := Classical.byContradiction c0
    have t0 : (((bt d 0).toNat : Int) != 82) = false := byte_eq c0
    by_cases c1 : bt d 1 ≠ 76
    · have HSP := Lib.hid (decide_eq_true (show torn0 d from .inr (.inl c1)))
      have t1 : (((bt d 1).toNat : Int) != 76) = true := byte_ne c1
      clear c0 c1
      go_quiet (fail)
      go_wp2_with fail
      go_meet
      exact ⟨by rw [HSP.out], _, rfl⟩
    have c1 : bt d 1 = 76 := Classical.byContradiction c1
    have t1 : (((bt d 1).toNat : Int) != 76) = false := byte_eq c1
    by_cases c3 : bt d 3 ≠ 0
    · have HSP := Lib.hid (decide_eq_true (show torn0 d from .inr (.inr (.inl c3))))
      have t3 : (((bt d 3).toNat : Int) != 0) = true := byte_ne c3
      clear c0 c1 c3
      go_quiet (fail)
      go_wp2_with fail
      go_meet
      exact ⟨by rw [HSP.out], _, rfl⟩
    have c3 : bt d 3 = 0 := Classical.byContradiction c3
    have t3 : (((bt d 3).toNat : Int) != 0) = false := byte_eq c3
    by_cases c4 : n4 d 12 = crc (d.take 12)
    · have HSP := Lib.hid (decide_eq_false (show ¬ torn0 d from fun h => by
        rcases h with h | h | h | h
        · exact h c0
        · exact h c1
        · exact h c3
        · exact h c4))
      have t4 : ((n4 d 12 : Int) != (crc (d.take 12) : Int)) = false := by rw [c4]; simp
      clear c0 c1 c3 c4
      go_quiet (first | (go_at_call 22; with_reducible exact HN12.out _) | (go_at_call 23; with_reducible exact HS12.out _))
      go_wp2_with fail
      go_meet
      exact ⟨by rw [HSP.out], _, rfl⟩
    · have HSP := Lib.hid (decide_eq_true (show torn0 d from .inr (.inr (.inr c4))))
      have t4 : ((n4 d 12 : Int) != (crc (d.take 12) : Int)) = true := by rw [bne_iff_ne]; omega
      clear c0 c1 c3 c4
      go_quiet (first | (go_at_call 22; with_reducible exact HN12.out _) | (go_at_call 23; with_reducible exact HS12.out _))
      go_wp2_with fail
      go_meet
      exact ⟨by rw [HSP.out], _, rfl⟩
  case rest =>
    obtain ⟨rfl, m3, rfl⟩ := hcut
    generalize hX : V.drewN m3 = X
    have hSx : Sees X (.slice (some ⟨g, o, none⟩) d.length c) (bytesV d) := by rw [← hX]; exact hSV.drewN _
    have hZx : Blk X w.heap.size 40 rz := by rw [← hX]; exact hZV.drewN _
    have hbwx : Below w.heap.size w X := by rw [← hX]; exact below_drewN hbwV _
    clear hX hSV hZV hbwV q0 q1 q3 z0n z1n z3n z12d z12' z12c z12n HN12 HS12
    have hcZ := hZx.cell
    have hfZ := hZx.frozen
    unfold rz at hcZ
    have hkd : (bt d 2).toNat < 256 := hb2
    by_cases ht0 : torn0 d
    · have hs : spoilt d := by
        rcases ht0 with h | h | h | h
        · exact .inl h
        · exact .inr (.inl h)
        · exact .inr (.inr (.inl h))
        · exact .inr (.inr (.inr (.inl h)))
      have HV := Lib.hid (readV_err (E := 192) hkl (by rw [HDD.out]; exact rdE_spoilt hlen hs) (by decide))
      rw [decide_eq_true ht0]
      clear ht0 hs
      go_wp2
      refine bodyPost_ret (v := .tuple #[.agg #[.int .i64 0, .int .i64 0, .string ⟨#[]⟩], .int .i64 0, .int .i64 192]) (by simp [results, Tryd.results13, go_sem, hcZ]) rfl ⟨by rw [HV.out]; rfl, ?_⟩
      refine Below.trans hbwx ?_
      go_grown
    · rw [decide_eq_false ht0]
      by_cases hr : recOk ((bt d 2).toNat : Int) (n4 d 4 : Int)
      · by_cases hn16 : 16384 < n4 d 8
        · have HV := Lib.hid (readV_err (E := 192) hkl (by rw [HDD.out]; exact rdE_spoilt hlen (.inr (.inr (.inr (.inr (.inr hn16)))))) (by decide))
          obtain ⟨r1, r2, r3, r4⟩ := hr
          clear ht0
          go_wp2
          refine bodyPost_ret (v := .tuple #[.agg #[.int .i64 0, .int .i64 0, .string ⟨#[]⟩], .int .i64 0, .int .i64 192]) (by simp [results, Tryd.results13, go_sem, hcZ]) rfl ⟨by rw [HV.out]; rfl, ?_⟩
          refine Below.trans hbwx ?_
          go_grown
        · have hsp : ¬ spoilt d := fun h => by
            rcases h with h | h | h | h | h | h
            · exact ht0 (.inl h)
            · exact ht0 (.inr (.inl h))
            · exact ht0 (.inr (.inr (.inl h)))
            · exact ht0 (.inr (.inr (.inr h)))
            · exact h hr
            · exact hn16 h
          obtain ⟨r1, r2, r3, r4⟩ := hr
          have hn16 : n4 d 8 ≤ 16384 := by omega
          by_cases ht : d.length < n4 d 8 + 20
          · have HV := Lib.hid (readV_err (E := 191) hkl (by rw [HDD.out]; exact rdE_torn hlen hsp ht) (by decide))
            clear hsp ht0
            go_wp2
            refine bodyPost_ret (v := .tuple #[.agg #[.int .i64 0, .int .i64 0, .string ⟨#[]⟩], .int .i64 0, .int .i64 191]) (by simp [results, Tryd.results13, go_sem, hcZ]) rfl ⟨by rw [HV.out]; rfl, ?_⟩
            refine Below.trans hbwx ?_
            go_grown
          · have HNS := Lib.hid hsp
            have hle : n4 d 8 + 20 ≤ d.length := by omega
            clear hsp ht ht0
            go_upto_region 15 with fail
            have x1 : IntKind.i64.wrap (16 + (n4 d 8 : Int)) = 16 + (n4 d 8 : Int) := IntWalk.i64_in _ (by omega)
            have x2 : 0 ≤ 16 + (n4 d 8 : Int) := by omega
            have x3 : (16 + (n4 d 8 : Int)).toNat = 16 + n4 d 8 := by omega
            have x4 : 16 + (n4 d 8 : Int) ≤ (d.length : Int) := by omega
            have x4n : 16 + n4 d 8 ≤ d.length := by omega
            have x6 : 16 + (n4 d 8 : Int) ≤ (c : Int) := by omega
            have x6n : 16 + n4 d 8 ≤ c := by omega
            have HN := Lib.hid (fun (n : Nat) => quiet_num (n := n) (w := X) (show Calls Tryd.prog 22 _ (X.drewN n) (fun e w' => e = .returned (.int .i64 (n4 d (16 + n4 d 8) : Int)) ∧ ∃ m, w' = (X.drewN n).drewN m) from rnumber_any d _ (X.drewN n) (16 + n4 d 8) (16 + (n4 d 8 : Int)) (by omega) (hSx.drewN n) (by omega)))
            have HS := Lib.hid (fun (n : Nat) => quiet_left (rsum_any (d.take (16 + n4 d 8)) _ (X.drewN n) (sees_take (hSx.drewN n) (k := 16 + n4 d 8) (by omega))))
            go_quiet (first | (go_at_call 22; with_reducible exact HN.out _) | (go_at_call 23; with_reducible exact HS.out _))
            clear HN HS x1 x2 x3 x6 hcZ hfZ
            generalize hY : X.drewN nq = Y
            have hSy : Sees Y (.slice (some ⟨g, o, none⟩) d.length c) (bytesV d) := by rw [← hY]; exact hSx.drewN _
            have hZy : Blk Y w.heap.size 40 rz := by rw [← hY]; exact hZx.drewN _
            have hbwy : Below w.heap.size w Y := by rw [← hY]; exact below_drewN hbwx _
            clear hY hSx hZx hbwx
            have hcZ := hZy.cell
            have hfZ := hZy.frozen
            unfold rz at hcZ
            by_cases hcc : n4 d (16 + n4 d 8) = crc (d.take (16 + n4 d 8))
            · have HV := Lib.hid (readV_ok hkl (by rw [HDD.out]; exact rdE_ok hlen HNS.out hle hcc))
              have t9 : ((n4 d (16 + n4 d 8) : Int) != (crc (d.take (16 + n4 d 8)) : Int)) = false := by rw [hcc]; simp
              clear hcc
              have hS16 := sees_drop hSy (k := 16) (by omega)
              have hdl : (d.drop 16).length = d.length - 16 := by simp
              rw [← hdl] at hS16
              have hSt := sees_take hS16 (k := n4 d 8) (by rw [hdl]; omega)
              have htl : (rdT d).length = n4 d 8 := by unfold rdT; simp; omega
              have hst := run_string_sees (m := rdT d) (g := g) (o := o + 16) (c := c - 16) (w := Y) (by rw [htl]; exact hSt)
              rw [htl] at hst
              have x7 : ¬ c = 16 := by omega
              have x8 : (16 : Int) ≤ 16 + (n4 d 8 : Int) := by omega
              have x9 : 16 ≤ 16 + n4 d 8 := by omega
              have x6 : 16 + (n4 d 8 : Int) ≤ (c : Int) := by omega
              have hkb : (k : Int) + (n4 d 8 : Int) + 20 ≤ (l.length : Int) := by have := HLD.out; omega
              have hkb2 : (k : Int) + (n4 d 8 : Int) ≤ (l.length : Int) := by omega
              clear hS16 hdl hSt htl hSy
              go_wp2
              refine bodyPost_ret (v := .tuple #[.agg #[.int .i64 (n4 d 4 : Int), .int .i64 ((bt d 2).toNat : Int), .string (str (rdT d))], .int .i64 ((k : Int) + (n4 d 8 : Int) + 20), .int .i64 0]) (by simp [results, Tryd.results13, go_sem, hcZ]) rfl ⟨by rw [HV.out, HDD.out], ?_⟩
              refine Below.trans hbwy ?_
              go_grown
            · have HV := Lib.hid (readV_err (E := 192) hkl (by rw [HDD.out]; exact rdE_sum hlen HNS.out hle hcc) (by decide))
              have t9 : ((n4 d (16 + n4 d 8) : Int) != (crc (d.take (16 + n4 d 8)) : Int)) = true := by rw [bne_iff_ne]; omega
              clear hcc
              go_wp2
              refine bodyPost_ret (v := .tuple #[.agg #[.int .i64 0, .int .i64 0, .string ⟨#[]⟩], .int .i64 0, .int .i64 192]) (by simp [results, Tryd.results13, go_sem, hcZ]) rfl ⟨by rw [HV.out]; rfl, ?_⟩
              refine Below.trans hbwy ?_
              go_grown
      · have HV := Lib.hid (readV_err (E := 192) hkl (by rw [HDD.out]; exact rdE_spoilt hlen (.inr (.inr (.inr (.inr (.inl hr)))))) (by decide))
        have h' : ((bt d 2).toNat : Int) < 1 ∨ (1 ≤ ((bt d 2).toNat : Int) ∧ 4 < ((bt d 2).toNat : Int)) ∨ (1 ≤ ((bt d 2).toNat : Int) ∧ ((bt d 2).toNat : Int) ≤ 4 ∧ (n4 d 4 : Int) < 1) ∨ (1 ≤ ((bt d 2).toNat : Int) ∧ ((bt d 2).toNat : Int) ≤ 4 ∧ 1 ≤ (n4 d 4 : Int) ∧ 2147483647 < (n4 d 4 : Int)) := by unfold recOk at hr; omega
        clear hr ht0
        rcases h' with h1 | ⟨h1, h2⟩ | ⟨h1, h2, h3⟩ | ⟨h1, h2, h3, h4⟩
        all_goals
          go_wp2
          refine bodyPost_ret (v := .tuple #[.agg #[.int .i64 0, .int .i64 0, .string ⟨#[]⟩], .int .i64 0, .int .i64 192]) (by simp [results, Tryd.results13, go_sem, hcZ]) rfl ⟨by rw [HV.out]; rfl, ?_⟩
          refine Below.trans hbwx ?_
          go_grown
/-- The document's Read at any bytes and place. -/
theorem rread_any (l : List UInt8) (v : Value) (x : Int) (w : World) (hS : Sees w v (bytesV l)) :
    Calls Tryd.prog 13 #[v, .int .i64 x] w fun e w' => e = .returned (readV l x) ∧ Below w.heap.size w w' := by
  by_cases hx : x < 0 ∨ (l.length : Int) < x
  · have e : readV l x = .tuple #[.agg #[.int .i64 0, .int .i64 0, .string (str [])], .int .i64 0, .int .i64 1] := by unfold readV; rw [if_pos hx]
    rw [e]
    exact rread_bad l v x w hS hx
  · obtain ⟨k, rfl⟩ := Int.eq_ofNat_of_zero_le (show 0 ≤ x by omega)
    have hk : k ≤ l.length := by omega
    by_cases h16 : k + 16 ≤ l.length
    · exact rread_main l v k w hS h16
    · have hE : rdE (l.drop k) = 191 := by unfold rdE; rw [if_pos (by simp; omega)]
      have := readV_err hk hE (by decide)
      show Calls Tryd.prog 13 #[v, .int .i64 (k : Int)] w fun e w' => e = .returned (readV l (k : Int)) ∧ Below w.heap.size w w'
      rw [this]
      exact rread_short l v k w hS hk (by omega)
end Go.Proofs.YtndclkphglpknaaDoor.Lg
