/- TernNested. -/
import Derived.Test.YtdiijannpfogdaaNe
import Derived.Laws.EntriesVeiled
namespace Go.Proofs.Ytdiijannpfogdaa.Tn
open Go.RowKit Go.Shelf
attribute [local go_sem] Oper.semAt_some
attribute [local go_sem] cv cs wv
theorem all1_x : ((str (allT 1)).toList == [120]) = true := by rw [ByteArray.toList_eq]; rfl
set_option maxRecDepth 100000 in
set_option maxHeartbeats 4000000 in
theorem nested_walk (s : ByteArray) (hs : s.size ≤ maxLen) (x : Int) (wx : (Lit.int .i64 x).wf = true) (y : Int) (wy : (Lit.int .i64 y).wf = true) (w : World) :
    Calls Try.prog 17 #[.string s, .int .i64 x, .int .i64 y] w fun e w' => e = .returned (.bool true) ∧ Below w.heap.size w w' := by
  obtain ⟨n, c, o, hC⟩ : ∃ n c o, Cub (cubeT s.data.toList) n c o := ⟨_, _, _, Cub.of _⟩
  have hn := hC.nrm.le
  have HC := Lib.hid hC
  clear hC
  have hx := clamp_le x 12 (by decide)
  have hy := clamp_le y 12 (by decide)
  have hfn := fn_nil
  have hax := all1_x
  have hs0 : Mm.St w [(w.heap.size + 1 + 1, 4, #[.bool false]), (w.heap.size + 1, 3, #[.int .i64 y]), (w.heap.size, 3, #[.int .i64 x])] [] (((w.alloc (.cells #[.int .i64 x] 3)).alloc (.cells #[.int .i64 y] 3)).alloc (.cells #[.bool false] 4)) := by
    have h0 : Mm.St w [] [] w := ⟨fun p hp => by simp at hp, Below.refl _ _, fun p hp => by simp at hp⟩
    have := ((h0.new 3 #[.int .i64 x]).new 3 #[.int .i64 y]).new 4 #[.bool false]
    simpa using this
  have HS0 := Lib.hid hs0
  clear hs0
  refine (callsIn_wide (n := 8)).1 ?_
  refine callsIn_of_wp_marks Try.func17 rfl trivial ?_ rfl
  simp only [Try.ntmps17, List.size_toArray, List.length_cons, List.length_nil, Nat.reduceAdd, Nat.reduceSub, Array.replicate_succ, Array.replicate_zero, List.push_toArray, List.append_toArray, List.nil_append, List.cons_append]
  gi_wp2_with fail
  refine ⟨trivial, ?_⟩
  refine (callsIn_wide.2 (made_any s hs HC.out _)).mono ?_
  rintro e w1 ⟨rfl, hb1⟩
  have hz1 : w.heap.size + 3 ≤ w1.heap.size := by have := hb1.size; simp at this; omega
  have HS1 := Lib.hid ((HS0.out.below hb1).new 30 (cs n c o))
  clear hb1 HS0
  gi_wp2_with fail
  refine ⟨trivial, ?_⟩
  refine (callsIn_wide.2 (all_any 1 _)).mono ?_
  rintro e w2 ⟨n1, c1, o1, hC1, rfl, hb2⟩
  have HS2 := Lib.hid (HS1.out.below hb2)
  have HC1 := Lib.hid hC1
  clear hb2 hC1 HS1
  gi_wp2_with fail
  refine ⟨trivial, ?_⟩
  refine (callsIn_wide.2 (text_any (allT 1) n1 c1 o1 _ HC1.out)).mono ?_
  rintro e w3 ⟨rfl, hb3⟩
  have HS3 := Lib.hid (HS2.out.below hb3)
  have cX := (HS3.out.blks (w.heap.size, 3, #[.int .i64 x]) (by simp)).cell 0
  have fX := (HS3.out.blks (w.heap.size, 3, #[.int .i64 x]) (by simp)).frozen 0
  have cY := (HS3.out.blks (w.heap.size + 1, 3, #[.int .i64 y]) (by simp)).cell 0
  have fY := (HS3.out.blks (w.heap.size + 1, 3, #[.int .i64 y]) (by simp)).frozen 0
  have cQ := (HS3.out.blks (w1.heap.size, 30, cs n c o) (by simp)).cell
  simp only [List.getElem?_toArray, List.getElem?_cons_zero] at cX cY
  have hz3 : w1.heap.size + 1 ≤ w3.heap.size := HS3.out.lt (p := (w1.heap.size, 30, cs n c o)) (by simp)
  clear hb3 HS2
  gi_wp2_with fail
  refine ⟨trivial, ?_⟩
  refine (callsIn_wide.2 (rcube_any s _ hs)).mono ?_
  rintro e w' ⟨rfl, rfl⟩
  gi_wp2_with fail
  refine ⟨trivial, ?_⟩
  refine (callsIn_wide.2 (within_law x 12 (by decide) _)).mono ?_
  rintro e w' ⟨rfl, rfl⟩
  generalize hA : clamp x 12 = k1 at *
  clear hA
  have hs4 : Mm.St w [(w.heap.size, 3, #[.int .i64 k1]), (w1.heap.size, 30, cs n c o), (w.heap.size + 1 + 1, 4, #[.bool false]), (w.heap.size + 1, 3, #[.int .i64 y])] [] (w3.setCell ⟨w.heap.size, 0, none⟩ (.int .i64 k1)) :=
    (HS3.out.weak (L' := [(w.heap.size, 3, #[.int .i64 x]), (w1.heap.size, 30, cs n c o), (w.heap.size + 1 + 1, 4, #[.bool false]), (w.heap.size + 1, 3, #[.int .i64 y])]) (fun q hq => by simp at hq ⊢; rcases hq with rfl | rfl | rfl | rfl <;> simp)).set (fun q hq => by simp at hq; rcases hq with rfl | rfl | rfl <;> simp <;> omega) (Nat.le_refl _) 0 (.int .i64 k1)
  have HS4 := Lib.hid hs4
  clear hs4 HS3
  gi_wp2_with fail
  refine ⟨trivial, ?_⟩
  refine (callsIn_wide.2 (within_law y 12 (by decide) _)).mono ?_
  rintro e w' ⟨rfl, rfl⟩
  generalize hB : clamp y 12 = k2 at *
  generalize (w3.setCell ⟨w.heap.size, 0, none⟩ (.int .i64 k1)) = w4 at *
  clear hB cX fX cY fY cQ
  have cX := (HS4.out.blks (w.heap.size, 3, #[.int .i64 k1]) (by simp)).cell 0
  have cY := (HS4.out.blks (w.heap.size + 1, 3, #[.int .i64 y]) (by simp)).cell 0
  have fY := (HS4.out.blks (w.heap.size + 1, 3, #[.int .i64 y]) (by simp)).frozen 0
  simp only [List.getElem?_toArray, List.getElem?_cons_zero] at cX cY
  have HS5 := Lib.hid ((HS4.out.weak (L' := [(w.heap.size + 1, 3, #[.int .i64 y]), (w.heap.size, 3, #[.int .i64 k1]), (w1.heap.size, 30, cs n c o), (w.heap.size + 1 + 1, 4, #[.bool false])]) (fun q hq => by simp at hq ⊢; rcases hq with rfl | rfl | rfl | rfl <;> simp)).set (fun q hq => by simp at hq; rcases hq with rfl | rfl | rfl <;> simp <;> omega) (by omega) 0 (.int .i64 k2))
  have hrm1 : ∀ w', Calls Try.prog 59 #[.string (str (cubeT s.data.toList)), .int .i64 ((k1 : Int) + 1)] w' fun e w2 => ∃ v, e = .returned v ∧ w2.ownsRow w'.heap.size 9 1 v ((memAll n c o).take (k1 + 1)).length (srow ((memAll n c o).take (k1 + 1))) ∧ Below w'.heap.size w' w2 := fun w' => by
    have h := rmembers_any (str (cubeT s.data.toList)) HC.out (k1 + 1) (by omega) w'
    push_cast at h
    exact h
  have hrm2 : ∀ w', Calls Try.prog 59 #[.string (str (cubeT s.data.toList)), .int .i64 ((k2 : Int) + 1)] w' fun e w2 => ∃ v, e = .returned v ∧ w2.ownsRow w'.heap.size 9 1 v ((memAll n c o).take (k2 + 1)).length (srow ((memAll n c o).take (k2 + 1))) ∧ Below w'.heap.size w' w2 := fun w' => by
    have h := rmembers_any (str (cubeT s.data.toList)) HC.out (k2 + 1) (by omega) w'
    push_cast at h
    exact h
  have HR1 := Lib.hid hrm1
  have HR2 := Lib.hid hrm2
  clear hrm1 hrm2 HS4
  gi_wp2_with fail
  refine ⟨trivial, ?_⟩
  refine (callsIn_wide.2 (HR1.out _)).mono ?_
  rintro e w6 ⟨v6, rfl, ho6, hb6⟩
  have hs5 : Mm.St w [(w.heap.size + 1, 3, #[.int .i64 k2]), (w.heap.size, 3, #[.int .i64 k1]), (w1.heap.size, 30, cs n c o), (w.heap.size + 1 + 1, 4, #[.bool false])] [] (w4.setCell ⟨w.heap.size + 1, 0, none⟩ (.int .i64 k2)) := HS5.out
  clear HS5
  generalize (w4.setCell ⟨w.heap.size + 1, 0, none⟩ (.int .i64 k2)) = w5 at *
  clear cX cY fY
  have hz5 : w.heap.size + 3 ≤ w5.heap.size := by have := hs5.lt (p := (w1.heap.size, 30, cs n c o)) (by simp); simp at this; omega
  obtain ⟨l1, hl1⟩ : ∃ l1, ((memAll n c o).take (k1 + 1)).length = l1 := ⟨_, rfl⟩
  rw [hl1] at ho6
  have HL1 := Lib.hid hl1
  obtain ⟨RLo, ao, co, rfl, hco, _, hbo, hto, hro⟩ := Mm.own_blks ho6
  have HS6 := Lib.hid (((hs5.below hb6).pushes hbo).new 48 #[.slice ao l1 co])
  have cY := (HS6.out.blks (w.heap.size + 1, 3, #[.int .i64 k2]) (by simp)).cell 0
  have hz6 : w5.heap.size ≤ w6.heap.size := hb6.size
  have HTO := Lib.hid hto
  have HRO := Lib.hid (show RowS RLo ao ((memAll n c o).take (k1 + 1)) from fun Y hY h => hro Y hY (by rw [← hl1]; exact h))
  simp only [List.getElem?_toArray, List.getElem?_cons_zero] at cY
  clear ho6 hb6 hbo hto hro hs5 hl1
  gi_wp2_with fail
  refine ⟨trivial, ?_⟩
  refine (callsIn_wide.2 (HR2.out _)).mono ?_
  rintro e w7 ⟨v7, rfl, ho7, hb7⟩
  obtain ⟨l2, hl2⟩ : ∃ l2, ((memAll n c o).take (k2 + 1)).length = l2 := ⟨_, rfl⟩
  rw [hl2] at ho7
  have HL2 := Lib.hid hl2
  obtain ⟨RLi, ai, ci, rfl, hci, _, hbi, hti, hri⟩ := Mm.own_blks ho7
  have HS7 := Lib.hid (((HS6.out.below hb7).pushes hbi).new 48 #[.slice ai l2 ci])
  have hz7 : w6.heap.size + 1 ≤ w7.heap.size := by have := hb7.size; simpa using this
  have HTI := Lib.hid hti
  have HRI := Lib.hid (show RowS RLi ai ((memAll n c o).take (k2 + 1)) from fun Y hY h => hri Y hY (by rw [← hl2]; exact h))
  have cQ := (HS7.out.blks (w1.heap.size, 30, cs n c o) (by simp)).cell
  clear ho7 hb7 hbi hti hri HS6 cY HR1 HR2 hl2
  gi_wp2_with fail
  refine ⟨trivial, ?_⟩
  refine (callsIn_wide.2 (members_fn (n := n) (c := c) (o := o) _)).mono ?_
  rintro e w' ⟨rfl, rfl⟩
  have hs8p := ((HS7.out.new 30 (cs n c o)).new 79 #[.func (.func 74) #[] #[.pointer (some ⟨w7.heap.size + 1, 0, none⟩)]])
  simp only [World.size_alloc] at hs8p
  have hs8 := hs8p.new 3 #[.int .i64 0]
  simp only [World.size_alloc] at hs8
  have HS8P := Lib.hid hs8p
  have HS8 := Lib.hid hs8
  clear hs8p hs8
  clear cQ HS7
  gi_wp2_with fail
  have hd : ∀ q ∈ ((w7.heap.size + 1 + 1, 79, #[.func (.func 74) #[] #[.pointer (some ⟨w7.heap.size + 1, 0, none⟩)]]) :: (w7.heap.size + 1, 30, cs n c o) :: (w7.heap.size, 48, #[.slice ai l2 ci]) :: (RLi ++ (w6.heap.size, 48, #[.slice ao l1 co]) :: (RLo ++ [(w.heap.size + 1, 3, #[.int .i64 k2]), (w.heap.size, 3, #[.int .i64 k1]), (w1.heap.size, 30, cs n c o), (w.heap.size + 1 + 1, 4, #[.bool false])])) : Mm.BL), q.1 ≠ w7.heap.size + 1 + 1 + 1 := by
    intro q hq
    have h := HS8P.out.lt hq
    simp only [World.size_alloc] at h
    exact Nat.ne_of_lt h
  have hdr : ∀ q ∈ ((w7.heap.size + 1 + 1, 79, #[.func (.func 74) #[] #[.pointer (some ⟨w7.heap.size + 1, 0, none⟩)]]) :: (w7.heap.size + 1, 30, cs n c o) :: (w7.heap.size, 48, #[.slice ai l2 ci]) :: (RLi ++ (w6.heap.size, 48, #[.slice ao l1 co]) :: (RLo ++ [(w.heap.size + 1, 3, #[.int .i64 k2]), (w.heap.size, 3, #[.int .i64 k1]), (w1.heap.size, 30, cs n c o)])) : Mm.BL), q.1 ≠ w.heap.size + 1 + 1 := by
    intro q hq
    simp only [List.mem_cons, List.mem_append, List.not_mem_nil, or_false] at hq
    rcases hq with rfl | rfl | rfl | hq | rfl | hq | rfl | rfl | rfl
    · simp; omega
    · simp; omega
    · simp; omega
    · have := (HTI.out _ hq).2; simp at this; omega
    · simp; omega
    · have := (HTO.out _ hq).2; omega
    · simp
    · simp; omega
    · simp; omega
  have hww : ∀ q ∈ ((w7.heap.size + 1 + 1, 79, #[.func (.func 74) #[] #[.pointer (some ⟨w7.heap.size + 1, 0, none⟩)]]) :: (w7.heap.size + 1, 30, cs n c o) :: (w7.heap.size, 48, #[.slice ai l2 ci]) :: (RLi ++ (w6.heap.size, 48, #[.slice ao l1 co]) :: (RLo ++ [(w.heap.size + 1, 3, #[.int .i64 k2]), (w.heap.size, 3, #[.int .i64 k1]), (w1.heap.size, 30, cs n c o)])) : Mm.BL), q ∈ ((w7.heap.size + 1 + 1, 79, #[.func (.func 74) #[] #[.pointer (some ⟨w7.heap.size + 1, 0, none⟩)]]) :: (w7.heap.size + 1, 30, cs n c o) :: (w7.heap.size, 48, #[.slice ai l2 ci]) :: (RLi ++ (w6.heap.size, 48, #[.slice ao l1 co]) :: (RLo ++ [(w.heap.size + 1, 3, #[.int .i64 k2]), (w.heap.size, 3, #[.int .i64 k1]), (w1.heap.size, 30, cs n c o), (w.heap.size + 1 + 1, 4, #[.bool false])])) : Mm.BL) := by
    intro q hq
    simp only [List.mem_cons, List.mem_append, List.not_mem_nil, or_false] at hq ⊢
    rcases hq with h | h | h | h | h | h | h | h | h <;> simp [h]
  have hmN : (w.heap.size, 3, #[.int .i64 k1]) ∈ ((w7.heap.size + 1 + 1, 79, #[.func (.func 74) #[] #[.pointer (some ⟨w7.heap.size + 1, 0, none⟩)]]) :: (w7.heap.size + 1, 30, cs n c o) :: (w7.heap.size, 48, #[.slice ai l2 ci]) :: (RLi ++ (w6.heap.size, 48, #[.slice ao l1 co]) :: (RLo ++ [(w.heap.size + 1, 3, #[.int .i64 k2]), (w.heap.size, 3, #[.int .i64 k1]), (w1.heap.size, 30, cs n c o), (w.heap.size + 1 + 1, 4, #[.bool false])])) : Mm.BL) := by simp
  have hmM : (w.heap.size + 1, 3, #[.int .i64 k2]) ∈ ((w7.heap.size + 1 + 1, 79, #[.func (.func 74) #[] #[.pointer (some ⟨w7.heap.size + 1, 0, none⟩)]]) :: (w7.heap.size + 1, 30, cs n c o) :: (w7.heap.size, 48, #[.slice ai l2 ci]) :: (RLi ++ (w6.heap.size, 48, #[.slice ao l1 co]) :: (RLo ++ [(w.heap.size + 1, 3, #[.int .i64 k2]), (w.heap.size, 3, #[.int .i64 k1]), (w1.heap.size, 30, cs n c o), (w.heap.size + 1 + 1, 4, #[.bool false])])) : Mm.BL) := by simp
  have hmR : (w.heap.size + 1 + 1, 4, #[.bool false]) ∈ ((w7.heap.size + 1 + 1, 79, #[.func (.func 74) #[] #[.pointer (some ⟨w7.heap.size + 1, 0, none⟩)]]) :: (w7.heap.size + 1, 30, cs n c o) :: (w7.heap.size, 48, #[.slice ai l2 ci]) :: (RLi ++ (w6.heap.size, 48, #[.slice ao l1 co]) :: (RLo ++ [(w.heap.size + 1, 3, #[.int .i64 k2]), (w.heap.size, 3, #[.int .i64 k1]), (w1.heap.size, 30, cs n c o), (w.heap.size + 1 + 1, 4, #[.bool false])])) : Mm.BL) := by simp
  have hmO : (w6.heap.size, 48, #[.slice ao l1 co]) ∈ ((w7.heap.size + 1 + 1, 79, #[.func (.func 74) #[] #[.pointer (some ⟨w7.heap.size + 1, 0, none⟩)]]) :: (w7.heap.size + 1, 30, cs n c o) :: (w7.heap.size, 48, #[.slice ai l2 ci]) :: (RLi ++ (w6.heap.size, 48, #[.slice ao l1 co]) :: (RLo ++ [(w.heap.size + 1, 3, #[.int .i64 k2]), (w.heap.size, 3, #[.int .i64 k1]), (w1.heap.size, 30, cs n c o), (w.heap.size + 1 + 1, 4, #[.bool false])])) : Mm.BL) := by simp
  have hmI : (w7.heap.size, 48, #[.slice ai l2 ci]) ∈ ((w7.heap.size + 1 + 1, 79, #[.func (.func 74) #[] #[.pointer (some ⟨w7.heap.size + 1, 0, none⟩)]]) :: (w7.heap.size + 1, 30, cs n c o) :: (w7.heap.size, 48, #[.slice ai l2 ci]) :: (RLi ++ (w6.heap.size, 48, #[.slice ao l1 co]) :: (RLo ++ [(w.heap.size + 1, 3, #[.int .i64 k2]), (w.heap.size, 3, #[.int .i64 k1]), (w1.heap.size, 30, cs n c o), (w.heap.size + 1 + 1, 4, #[.bool false])])) : Mm.BL) := by simp
  have hmF : (w7.heap.size + 1 + 1, 79, #[.func (.func 74) #[] #[.pointer (some ⟨w7.heap.size + 1, 0, none⟩)]]) ∈ ((w7.heap.size + 1 + 1, 79, #[.func (.func 74) #[] #[.pointer (some ⟨w7.heap.size + 1, 0, none⟩)]]) :: (w7.heap.size + 1, 30, cs n c o) :: (w7.heap.size, 48, #[.slice ai l2 ci]) :: (RLi ++ (w6.heap.size, 48, #[.slice ao l1 co]) :: (RLo ++ [(w.heap.size + 1, 3, #[.int .i64 k2]), (w.heap.size, 3, #[.int .i64 k1]), (w1.heap.size, 30, cs n c o), (w.heap.size + 1 + 1, 4, #[.bool false])])) : Mm.BL) := by simp
  have hmC : (w7.heap.size + 1, 30, cs n c o) ∈ ((w7.heap.size + 1 + 1, 79, #[.func (.func 74) #[] #[.pointer (some ⟨w7.heap.size + 1, 0, none⟩)]]) :: (w7.heap.size + 1, 30, cs n c o) :: (w7.heap.size, 48, #[.slice ai l2 ci]) :: (RLi ++ (w6.heap.size, 48, #[.slice ao l1 co]) :: (RLo ++ [(w.heap.size + 1, 3, #[.int .i64 k2]), (w.heap.size, 3, #[.int .i64 k1]), (w1.heap.size, 30, cs n c o), (w.heap.size + 1 + 1, 4, #[.bool false])])) : Mm.BL) := by simp
  have hmro : ∀ q ∈ RLo, q ∈ ((w7.heap.size + 1 + 1, 79, #[.func (.func 74) #[] #[.pointer (some ⟨w7.heap.size + 1, 0, none⟩)]]) :: (w7.heap.size + 1, 30, cs n c o) :: (w7.heap.size, 48, #[.slice ai l2 ci]) :: (RLi ++ (w6.heap.size, 48, #[.slice ao l1 co]) :: (RLo ++ [(w.heap.size + 1, 3, #[.int .i64 k2]), (w.heap.size, 3, #[.int .i64 k1]), (w1.heap.size, 30, cs n c o), (w.heap.size + 1 + 1, 4, #[.bool false])])) : Mm.BL) := by intro q hq; simp [hq]
  have hmri : ∀ q ∈ RLi, q ∈ ((w7.heap.size + 1 + 1, 79, #[.func (.func 74) #[] #[.pointer (some ⟨w7.heap.size + 1, 0, none⟩)]]) :: (w7.heap.size + 1, 30, cs n c o) :: (w7.heap.size, 48, #[.slice ai l2 ci]) :: (RLi ++ (w6.heap.size, 48, #[.slice ao l1 co]) :: (RLo ++ [(w.heap.size + 1, 3, #[.int .i64 k2]), (w.heap.size, 3, #[.int .i64 k1]), (w1.heap.size, 30, cs n c o), (w.heap.size + 1 + 1, 4, #[.bool false])])) : Mm.BL) := by intro q hq; simp [hq]
  generalize ((w7.heap.size + 1 + 1, 79, #[.func (.func 74) #[] #[.pointer (some ⟨w7.heap.size + 1, 0, none⟩)]]) :: (w7.heap.size + 1, 30, cs n c o) :: (w7.heap.size, 48, #[.slice ai l2 ci]) :: (RLi ++ (w6.heap.size, 48, #[.slice ao l1 co]) :: (RLo ++ [(w.heap.size + 1, 3, #[.int .i64 k2]), (w.heap.size, 3, #[.int .i64 k1]), (w1.heap.size, 30, cs n c o), (w.heap.size + 1 + 1, 4, #[.bool false])])) : Mm.BL) = L0 at *
  generalize ((w7.heap.size + 1 + 1, 79, #[.func (.func 74) #[] #[.pointer (some ⟨w7.heap.size + 1, 0, none⟩)]]) :: (w7.heap.size + 1, 30, cs n c o) :: (w7.heap.size, 48, #[.slice ai l2 ci]) :: (RLi ++ (w6.heap.size, 48, #[.slice ao l1 co]) :: (RLo ++ [(w.heap.size + 1, 3, #[.int .i64 k2]), (w.heap.size, 3, #[.int .i64 k1]), (w1.heap.size, 30, cs n c o)])) : Mm.BL) = L1 at *
  have HD := Lib.hid hd
  have HDR := Lib.hid hdr
  have HWW := Lib.hid hww
  have HMRO := Lib.hid hmro
  have HMRI := Lib.hid hmri
  clear hd hdr hww hmro hmri HS8P
  have hz := HS8.out.bel.size
  simp only [World.size_alloc] at hz
  refine nest_outer (c := c) (o := o) _ _ _ _ _ _ _ _ _ _ _ _ _ _ _ _ _ _ _ _ _ _ _ _ _ _ _ _ _ _ _ _ _ _ _ _ _ _ _ _ _ _ _ _ _ _ _ _ _ _ _ _ _ _ _ _ _ _ _ _ _ _ _ _ _ _ _ _ _ _ _ _ _ _ _ _ _ _ _ _ _ _ _ _ _ _ _ _ _ _ _ _ _ _ _ _ _ _ _ _ _ _ _ _ _ _ _ _ _ hn w _ L0 [] RLo RLi ao ai co ci k1 k2 w.heap.size (w.heap.size + 1) _ w6.heap.size w7.heap.size _ _ (w7.heap.size + 1) [] _ _ (fun a' w' h => ⟨h, h⟩) (by omega) (by omega) l1 l2 HL1.out HL2.out HRO.out HRI.out hmN hmM hmO hmI hmF hmC HMRO.out HMRI.out HD.out (fun D hD => by simp at hD) (by omega) HS8.out ?_
  rintro D0 X1 k hD0 hK0 hs9 hk9
  have cN := hs9.head.cell 0
  have fN := hs9.head.frozen 0
  have cO := (hs9.tail.blks _ hmO).cell 0
  have cF := (hs9.tail.blks _ hmF).cell 0
  have nF : w7.heap.size + 1 + 1 ≠ w7.heap.size + 1 + 1 + 1 := by omega
  simp only [List.getElem?_toArray, List.getElem?_cons_zero] at cN cO cF
  have HS9 := Lib.hid ((hs9.mark hK0).set HD.out (by omega) 0 (.int .i64 0))
  have HK0 := Lib.hid hK0
  have HD0 := Lib.hid hD0
  have hke : ((k : Int) != (l1 : Int)) = false := by rw [hk9]; simp
  clear hs9 hK0 hD0 hk9 HS8
  gi_wp2
  refine nest_third (c := c) (o := o) _ _ _ _ _ _ _ _ _ _ _ _ _ _ _ _ _ _ _ _ _ _ _ _ _ _ _ _ _ _ _ _ _ _ _ _ _ _ _ _ _ _ _ _ _ _ _ _ _ _ _ _ _ _ _ _ _ _ _ _ _ _ _ _ _ _ _ _ _ _ _ _ _ _ _ _ _ _ _ _ _ _ _ _ _ _ _ _ _ _ _ _ _ _ _ _ _ _ _ _ _ _ _ _ _ _ _ _ _ hn w _ L0 [D0] RLo ao co k1 w.heap.size (w.heap.size + 1) _ w6.heap.size w7.heap.size _ _ (w7.heap.size + 1) _ _ _ (fun a' w' h => ⟨h, h⟩) (by omega) l1 HL1.out HRO.out hmN hmO hmC HMRO.out HD.out ?_ (by omega) HS9.out ?_
  · intro D hD
    obtain rfl : D = D0 := by simpa using hD
    exact Nat.lt_of_lt_of_le (Array.getElem?_eq_some_iff.1 HK0.out).1 (by simp [World.setCell])
  rintro D1 X3 k3 hD1 hK1 hs10 hk10
  have cN3 := hs10.head.cell 0
  have cO3 := (hs10.tail.blks _ hmO).cell 0
  have cR3 := (hs10.tail.blks _ hmR).cell 0
  have fR3 := (hs10.tail.blks _ hmR).frozen 0
  simp only [List.getElem?_toArray, List.getElem?_cons_zero] at cN3 cO3 cR3
  have hee : ((k3 : Int) == (l1 : Int)) = true := by rw [hk10]; simp
  have HS11 := Lib.hid (((hs10.tail.weak HWW.out).push (p := (w.heap.size + 1 + 1, 4, #[.bool false])) (hs10.tail.blks _ hmR)).set HDR.out (by omega) 0 (.bool true))
  have nb1 : D1 ≠ w.heap.size + 1 + 1 := hs10.tail.mark_ne hK1 hmR
  have HK1 := Lib.hid hK1
  have HD1 := Lib.hid hD1
  clear hs10 hK1 hD1 hk10 cN fN cO cF HS9
  gi_wp2
  have hD01 : D0 ≠ D1 := by
    have a1 := HD1.out
    have a3 := (Array.getElem?_eq_some_iff.1 HK0.out).1
    simp [World.setCell] at a1
    omega
  have y0 := HS11.out.marks D0 (by simp)
  have nb0 : D0 ≠ w.heap.size + 1 + 1 := fun e => by
    have h2 : _ = _ := HS11.out.head
    simp only at h2
    rw [e, h2] at y0
    cases y0
  have y1 : (X3.setCell ⟨w.heap.size + 1 + 1, 0, none⟩ (.bool true)).heap[D1]? = some (.deferred (some [])) := (Below.heap_setCell _ _ _ _ (by simpa using nb1)).trans HK1.out
  have yr := HS11.out.head
  have yb := HS11.out.bel
  generalize (X3.setCell ⟨w.heap.size + 1 + 1, 0, none⟩ (.bool true)) = Y at *
  have y2 : (Y.putObj D1 (.deferred none)).heap[D0]? = some (.deferred (some [])) := (World.putObj_heap_other hD01).trans y0
  have yr2 : Mm.Blk ((Y.putObj D1 (.deferred none)).putObj D0 (.deferred none)) (w.heap.size + 1 + 1) 4 #[.bool true] := Mm.Blk.unput (Mm.Blk.unput yr nb1) nb0
  have cr2 := yr2.cell 0
  simp only [List.getElem?_toArray, List.getElem?_cons_zero] at cr2
  refine ⟨by simp, .inl ⟨_, _, rfl, run_takeDeferred y1, by simp, .inl ⟨_, _, rfl, run_takeDeferred y2, ?_⟩⟩⟩
  have b1 : Below w.heap.size w (Y.putObj D1 (.deferred none)) := yb.trans (belowK_b (w := w) (Nat.le_refl _) _ D1 _ _ ?_ y1 rfl rfl)
  refine ⟨.bool true, by simp [results, Try.f17, go_sem, cr2], rfl, b1.trans (belowK_b (w := w) (Nat.le_refl _) _ D0 _ _ ?_ y2 rfl rfl)⟩
  · have := HD0.out; simp at this; omega
  · have := HD1.out; have := HD0.out; have := (Array.getElem?_eq_some_iff.1 HK0.out).1; simp [World.setCell] at *; omega
end Go.Proofs.Ytdiijannpfogdaa.Tn
