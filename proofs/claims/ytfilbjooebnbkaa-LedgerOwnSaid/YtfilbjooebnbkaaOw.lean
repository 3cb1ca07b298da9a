/- LedgerOwn: what the statement keeps: rows of bytes, their lists, the records read. -/
import Derived.Test.YtfilbjooebnbkaaKX
import Derived.Test.YtfilbjooebnbkaaRe
import Derived.Test.YtfilbjooebnbkaaCt
import Derived.Test.YtfilbjooebnbkaaEa
import Derived.Test.YtfilbjooebnbkaaFm
namespace Go.Proofs.Ytfilbjooebnbkaa.Lg
open Go.RowKit Mm Law
set_option linter.unusedVariables false
abbrev Rc := Int × ByteArray
def encB (p : Rc) : List UInt8 := enc 1 p.1.toNat p.2.data.toList
def okP (p : Rc) : Prop := 1 ≤ p.1 ∧ p.1 ≤ 30 ∧ p.2.size ≤ 100
def recC (R : List Rc) : List Value := R.flatMap fun p => [.int .i64 p.1, .int .i64 1, .string p.2]
theorem recC_snoc (R : List Rc) (p : Rc) : recC (R ++ [p]) = recC R ++ [.int .i64 p.1, .int .i64 1, .string p.2] := by simp [recC]
theorem info_bb : (Try.prog.info? 30).map (fun i => (i.zero, i.size, i.bytes)) = some (some (.slice none 0 0), 1, 24) := by kernel_rfl
theorem info_rc : (Try.prog.info? 29).map (fun i => (i.zero, i.size, i.bytes)) = some (some (.agg #[.int .i64 0, .int .i64 0, .string ⟨#[]⟩]), 3, 32) := by kernel_rfl
theorem info_u8o : (Try.prog.info? 5).map (fun i => (i.zero, i.size, i.bytes)) = some (some (.int .u8 0), 1, 1) := by kernel_rfl
theorem app_bb {B : Nat} {v : Value} {n : Nat} {xs : List Value} {w : World} (y : Value) (hy : y.oneCell' = true) {ops : Array Oper} {rest : List Oper} {o : Oper} {a : Act} {Q : Exit → Act → World → Prop} {s x : Operand}
    (hown : w.ownsRow B 30 1 v n xs) (hgd : o.guard = none) (ho : o.op = .call { callee := .builtin .append, args := #[s, x], argTypes := #[24, 24] })
    (hs : a.eval s = v) (hx : a.eval x = .slice (some ⟨w.heap.size, 0, none⟩) 1 1) (hn : n ≤ 1000000) (hB : B ≤ w.heap.size)
    (h : ∀ v' w', w'.ownsRow B 30 1 v' (n + 1) (xs ++ [y]) → Keeps (w.alloc (.cells #[y] 30)) v v' w' → wpList Try.prog ops Q rest (a.put o.dst v') w') : wpList Try.prog ops Q (o :: rest) a (w.alloc (.cells #[y] 30)) := by
  obtain ⟨i0, hi, hz0, hz1, hz2⟩ := info_parts info_bb
  exact wpList_append_keep _ hgd s x 24 ho B 30 i0 _ 1 24 Try.underlying24 hi hz0 hz1 hz2 rfl (by decide) v n _ hs (hown.alloc _) ⟨w.heap.size, 0, none⟩ 1 1 [y] hx rfl (cell_one_new _ _ _)
    (by simp [hy]) (by decide) (by simp only [maxLen]; omega) (by omega) (by simp; omega) h
theorem app_rc {B : Nat} {v : Value} {n : Nat} {xs : List Value} {w : World} (p : Rc) {ops : Array Oper} {rest : List Oper} {o : Oper} {a : Act} {Q : Exit → Act → World → Prop} {s x : Operand}
    (hown : w.ownsRow B 29 3 v n xs) (hgd : o.guard = none) (ho : o.op = .call { callee := .builtin .append, args := #[s, x], argTypes := #[25, 25] })
    (hs : a.eval s = v) (hx : a.eval x = .slice (some ⟨w.heap.size, 0, none⟩) 1 1) (hn : n ≤ 1000000) (hB : B ≤ w.heap.size)
    (h : ∀ v' w', w'.ownsRow B 29 3 v' (n + 1) (xs ++ [.int .i64 p.1, .int .i64 1, .string p.2]) → Keeps (w.alloc (.cells #[.int .i64 p.1, .int .i64 1, .string p.2] 29)) v v' w' → wpList Try.prog ops Q rest (a.put o.dst v') w') : wpList Try.prog ops Q (o :: rest) a (w.alloc (.cells #[.int .i64 p.1, .int .i64 1, .string p.2] 29)) := by
  obtain ⟨i0, hi, hz0, hz1, hz2⟩ := info_parts info_rc
  exact wpList_append_keep _ hgd s x 25 ho B 29 i0 _ 3 32 Try.underlying25 hi hz0 hz1 hz2 rfl (by decide) v n _ hs (hown.alloc _) ⟨w.heap.size, 0, none⟩ 1 1 [.int .i64 p.1, .int .i64 1, .string p.2] hx rfl (cells_new _ #[.int .i64 p.1, .int .i64 1, .string p.2] _)
    (by simp [Value.oneCell']) (by decide) (by simp only [maxLen]; omega) (by omega) (by simp; omega) h
theorem own_weak {w : World} {B B' s n : Nat} {e : TypeId} {v : Value} {xs : List Value} (h : w.ownsRow B e s v n xs) (hB : B' ≤ B) : w.ownsRow B' e s v n xs := by
  refine ⟨h.1, ?_⟩
  rcases h.2 with h0 | ⟨g, cap, cur, hv, hb, rest⟩
  · exact .inl h0
  · exact .inr ⟨g, cap, cur, hv, Nat.le_trans hB hb, rest⟩
/-- the rows' contents are the records' bytes -/
def Cont (rows : List Rw) (R : List Rc) : Prop := rows.map (fun r => (r.n, r.xs)) = R.map fun p => ((encB p).length, bytesV (encB p))
theorem Cont.len {rows : List Rw} {R : List Rc} (h : Cont rows R) : rows.length = R.length := by
  have := congrArg List.length h
  simpa using this
theorem Cont.snoc {rows : List Rw} {R : List Rc} (h : Cont rows R) (v : Value) (p : Rc) : Cont (rows ++ [⟨v, (encB p).length, bytesV (encB p)⟩]) (R ++ [p]) := by
  unfold Cont at *
  rw [List.map_append, List.map_append, h]
  rfl
theorem Cont.at {rows : List Rw} {R : List Rc} (h : Cont rows R) {i : Nat} {p : Rc} (hp : R[i]? = some p) : ∃ r, rows[i]? = some r ∧ r.n = (encB p).length ∧ r.xs = bytesV (encB p) := by
  have h1 : (rows.map fun r => (r.n, r.xs))[i]? = some ((encB p).length, bytesV (encB p)) := by rw [h, List.getElem?_map, hp]; rfl
  rw [List.getElem?_map] at h1
  cases hr : rows[i]? with
  | none => rw [hr] at h1; cases h1
  | some r =>
    rw [hr] at h1
    have h2 := Option.some.inj h1
    exact ⟨r, rfl, congrArg Prod.fst h2, congrArg Prod.snd h2⟩
theorem enc_one (p : Rc) (h : okP p) : encE 1 p.1 p.2.data.toList = 0 ∧ encT 1 p.1 p.2.data.toList = encB p := by
  obtain ⟨h1, h2, h3⟩ := h
  have hl := len_s p.2
  have e1 : encE 1 p.1 p.2.data.toList = 0 := by
    unfold encE
    rw [if_neg (by omega), if_pos ⟨by decide, by decide, by omega, by omega⟩]
  refine ⟨e1, ?_⟩
  unfold encT
  rw [e1, if_pos rfl]
  rfl
theorem encB_len (p : Rc) (h : okP p) : (encB p).length = p.2.size + 20 := by
  unfold encB
  rw [enc_len, len_s]
theorem read_one (p : Rc) (h : okP p) : ∃ k : Int, readV (encB p) 0 = .tuple #[.agg #[.int .i64 p.1, .int .i64 1, .string p.2], .int .i64 k, .int .i64 0] := by
  obtain ⟨h1, h2, h3⟩ := h
  have hl := len_s p.2
  have hx := enc_ok 1 p.1.toNat p.2.data.toList [] ⟨Nat.le_refl 1, (by show (1 : Nat) ≤ 4; omega), by simp only; omega⟩ (by omega)
  rw [List.append_nil] at hx
  obtain ⟨x1, x2, x3, x4, x5⟩ := hx
  have hr := readV_ok (l := encB p) (k := 0) (Nat.zero_le _) (by rw [List.drop_zero]; exact x1)
  rw [List.drop_zero] at hr
  refine ⟨(((0 : Nat) : Int) + (n4 (encB p) 8 : Int) + 20), hr.trans ?_⟩
  unfold encB
  rw [x2, x3, x4, str_of, show ((p.1.toNat : Nat) : Int) = p.1 from by omega]
  rfl
attribute [irreducible] encB
structure Own1 (w : World) (rows ws : List Rw) (rc rd : List Rc) (a b c d : Value) (X : World) : Prop where
  bel : Below w.heap.size w X
  oa : X.ownsRow w.heap.size 30 1 a rows.length (rows.map Rw.v)
  ob : X.ownsRow w.heap.size 30 1 b ws.length (ws.map Rw.v)
  oc : X.ownsRow w.heap.size 29 3 c rc.length (recC rc)
  od : X.ownsRow w.heap.size 29 3 d rd.length (recC rd)
  ab : Apart a b
  cd : Apart c d
  fr : Fam w.heap.size 5 1 rows X
  fw : Fam w.heap.size 5 1 ws X
theorem Own1.new (w : World) : Own1 w [] [] [] [] (.slice none 0 0) (.slice none 0 0) (.slice none 0 0) (.slice none 0 0) w :=
  ⟨Below.refl _ _, World.ownsRow_nil _ _ _ _, World.ownsRow_nil _ _ _ _, World.ownsRow_nil _ _ _ _, World.ownsRow_nil _ _ _ _, .inl rfl, .inl rfl, Fam.nil _ _ _ _, Fam.nil _ _ _ _⟩
section
variable {w X Y : World} {rows ws : List Rw} {rc rd : List Rc} {a b c d : Value}
theorem Own1.below (h : Own1 w rows ws rc rd a b c d X) (hb : Below X.heap.size X Y) : Own1 w rows ws rc rd a b c d Y :=
  ⟨bnx h.bel hb, own_below h.oa hb (Nat.le_refl _), own_below h.ob hb (Nat.le_refl _), own_below h.oc hb (Nat.le_refl _), own_below h.od hb (Nat.le_refl _), h.ab, h.cd, h.fr.below hb (Nat.le_refl _), h.fw.below hb (Nat.le_refl _)⟩
theorem bel_keeps {B s n : Nat} {e : TypeId} {v v' : Value} {xs : List Value} (h : Below w.heap.size w X) (ho : X.ownsRow w.heap.size e s v n xs) (hk : Keeps X v v' Y) : Below w.heap.size w Y :=
  h.grown hk.by h.size (fun k hk => (ho.lt k hk).1)
theorem Own1.addA (h : Own1 w rows ws rc rd a b c d X) {q : Rw} {a' : Value} (hq : Y.ownsRow w.heap.size 5 1 q.v q.n q.xs) (hqa : ∀ (i : Nat) (r : Rw), rows[i]? = some r → Apart r.v q.v)
    (ho : Y.ownsRow w.heap.size 30 1 a' (rows.length + 1) (rows.map Rw.v ++ [q.v])) (hk : Keeps X a a' Y) : Own1 w (rows ++ [q]) ws rc rd a' b c d Y := by
  refine ⟨bel_keeps (B := 0) h.bel h.oa hk, by simpa using ho, own_keeps h.ob hk h.ab.symm, own_keeps h.oc hk (apart_ty h.oc h.oa (by decide)), own_keeps h.od hk (apart_ty h.od h.oa (by decide)), (Apart.keeps h.ob hk h.ab.symm).symm, h.cd, ?_, h.fw.keeps hk fun i r hr => apart_ty (h.fw.1 i r hr) h.oa (by decide)⟩
  exact (h.fr.keeps hk fun i r hr => apart_ty (h.fr.1 i r hr) h.oa (by decide)).snoc hq hqa
theorem Own1.addB (h : Own1 w rows ws rc rd a b c d X) {q : Rw} {b' : Value} (hq : Y.ownsRow w.heap.size 5 1 q.v q.n q.xs) (hqa : ∀ (i : Nat) (r : Rw), ws[i]? = some r → Apart r.v q.v)
    (ho : Y.ownsRow w.heap.size 30 1 b' (ws.length + 1) (ws.map Rw.v ++ [q.v])) (hk : Keeps X b b' Y) : Own1 w rows (ws ++ [q]) rc rd a b' c d Y := by
  refine ⟨bel_keeps (B := 0) h.bel h.ob hk, own_keeps h.oa hk h.ab, by simpa using ho, own_keeps h.oc hk (apart_ty h.oc h.ob (by decide)), own_keeps h.od hk (apart_ty h.od h.ob (by decide)), Apart.keeps h.oa hk h.ab, h.cd, h.fr.keeps hk fun i r hr => apart_ty (h.fr.1 i r hr) h.ob (by decide), ?_⟩
  exact (h.fw.keeps hk fun i r hr => apart_ty (h.fw.1 i r hr) h.ob (by decide)).snoc hq hqa
theorem Own1.addC (h : Own1 w rows ws rc rd a b c d X) {p : Rc} {c' : Value} (ho : Y.ownsRow w.heap.size 29 3 c' (rc.length + 1) (recC rc ++ [.int .i64 p.1, .int .i64 1, .string p.2])) (hk : Keeps X c c' Y) : Own1 w rows ws (rc ++ [p]) rd a b c' d Y := by
  refine ⟨bel_keeps (B := 0) h.bel h.oc hk, own_keeps h.oa hk (apart_ty h.oa h.oc (by decide)), own_keeps h.ob hk (apart_ty h.ob h.oc (by decide)), by rw [recC_snoc]; simpa using ho, own_keeps h.od hk h.cd.symm, h.ab, (Apart.keeps h.od hk h.cd.symm).symm, h.fr.keeps hk fun i r hr => apart_ty (h.fr.1 i r hr) h.oc (by decide), h.fw.keeps hk fun i r hr => apart_ty (h.fw.1 i r hr) h.oc (by decide)⟩
theorem Own1.addD (h : Own1 w rows ws rc rd a b c d X) {p : Rc} {d' : Value} (ho : Y.ownsRow w.heap.size 29 3 d' (rd.length + 1) (recC rd ++ [.int .i64 p.1, .int .i64 1, .string p.2])) (hk : Keeps X d d' Y) : Own1 w rows ws rc (rd ++ [p]) a b c d' Y := by
  refine ⟨bel_keeps (B := 0) h.bel h.od hk, own_keeps h.oa hk (apart_ty h.oa h.od (by decide)), own_keeps h.ob hk (apart_ty h.ob h.od (by decide)), own_keeps h.oc hk h.cd, by rw [recC_snoc]; simpa using ho, h.ab, Apart.keeps h.oc hk h.cd, h.fr.keeps hk fun i r hr => apart_ty (h.fr.1 i r hr) h.od (by decide), h.fw.keeps hk fun i r hr => apart_ty (h.fw.1 i r hr) h.od (by decide)⟩
end
theorem own_cell {w : World} {B s n : Nat} {e : TypeId} {v : Value} {xs : List Value} (h : w.ownsRow B e s v n xs) : v.oneCell' = true := by
  rcases h.2 with ⟨h0, _⟩ | ⟨g, cap, cur, hv, _⟩
  · rw [h0]; rfl
  · rw [hv]; rfl
theorem rec_neq (a b : Int) (s : ByteArray) (w : World) : (binOp .neq 29 (.agg #[.int .i64 a, .int .i64 b, .string s]) (.agg #[.int .i64 a, .int .i64 b, .string s])).run Try.prog w = .ok (.bool false) w := by
  rw [run_neq_struct]
  simp [go_sem]
theorem recC_at : ∀ (R : List Rc) (j : Nat) (p : Rc), R[j]? = some p → (recC R)[j * 3]? = some (.int .i64 p.1) ∧ (recC R)[j * 3 + 1]? = some (.int .i64 1) ∧ (recC R)[j * 3 + 2]? = some (.string p.2)
  | [], j, p, h => by simp at h
  | q :: R, 0, p, h => by cases h; exact ⟨rfl, rfl, rfl⟩
  | q :: R, j + 1, p, h => by
    have := recC_at R j p (by simpa using h)
    rw [show (j + 1) * 3 = j * 3 + 3 by omega]
    exact this
/-- what a round that looks at one of the rows knows -/
structure Look (w1 : World) (rows ws : List Rw) (R : List Rc) (pa pb pc pd : Option Addr) (j : Nat) (p : Rc) (va vb : Value) (wr : World) : Prop where
  ga : ∃ g, pa = some ⟨g, 0, none⟩ ∧ wr.cell? ⟨g, j, none⟩ = some va ∧ g < wr.heap.size
  gb : ∃ g, pb = some ⟨g, 0, none⟩ ∧ wr.cell? ⟨g, j, none⟩ = some vb ∧ g < wr.heap.size
  gc : ∃ g, pc = some ⟨g, 0, none⟩ ∧ wr.cell? ⟨g, j * 3, none⟩ = some (.int .i64 p.1) ∧ wr.cell? ⟨g, j * 3 + 1, none⟩ = some (.int .i64 1) ∧ wr.cell? ⟨g, j * 3 + 2, none⟩ = some (.string p.2) ∧ g < wr.heap.size
  gd : ∃ g, pd = some ⟨g, 0, none⟩ ∧ wr.cell? ⟨g, j * 3, none⟩ = some (.int .i64 p.1) ∧ wr.cell? ⟨g, j * 3 + 1, none⟩ = some (.int .i64 1) ∧ wr.cell? ⟨g, j * 3 + 2, none⟩ = some (.string p.2) ∧ g < wr.heap.size
  sa : Sees wr va (bytesV (encB p))
  sb : Sees wr vb (bytesV (encB p))
theorem own_cellAt {w : World} {B s n : Nat} {e : TypeId} {pa : Option Addr} {ca : Nat} {xs : List Value} (h : w.ownsRow B e s (.slice pa n ca) n xs) (hn : 0 < n) : ∃ g, pa = some ⟨g, 0, none⟩ ∧ (∀ j u, xs[j]? = some u → w.cell? ⟨g, j, none⟩ = some u) ∧ g < w.heap.size := by
  obtain ⟨g, cap, hv, _, _, hlt, hc⟩ := own_at h hn
  cases hv
  exact ⟨g, rfl, hc, hlt⟩
theorem Own1.look {w1 wr : World} {rows ws : List Rw} {R : List Rc} {pa pb pc pd : Option Addr} {ca cb cc cd : Nat} (h : Own1 w1 rows ws R R (.slice pa rows.length ca) (.slice pb ws.length cb) (.slice pc R.length cc) (.slice pd R.length cd) wr) (h1 : Cont rows R) (h2 : Cont ws R) {j : Nat} {p : Rc} (hp : R[j]? = some p) :
    ∃ va vb, Look w1 rows ws R pa pb pc pd j p va vb wr := by
  have hjR := (List.getElem?_eq_some_iff.1 hp).1
  obtain ⟨r, hr, hn, hx⟩ := h1.at hp
  obtain ⟨q, hq, hn2, hx2⟩ := h2.at hp
  obtain ⟨x1, x2, x3⟩ := recC_at R j p hp
  have l1 := h1.len
  have l2 := h2.len
  obtain ⟨ga, rfl, ca1, la⟩ := own_cellAt h.oa (by omega)
  obtain ⟨gb, rfl, cb1, lb⟩ := own_cellAt h.ob (by omega)
  obtain ⟨gc, rfl, cc1, lc⟩ := own_cellAt h.oc (by omega)
  obtain ⟨gd, rfl, cd1, ld⟩ := own_cellAt h.od (by omega)
  have o1 := h.fr.1 j r hr
  have o2 := h.fw.1 j q hq
  rw [hx] at o1
  rw [hx2] at o2
  exact ⟨r.v, q.v, ⟨ga, rfl, ca1 j r.v (by rw [List.getElem?_map, hr]; rfl), la⟩, ⟨gb, rfl, cb1 j q.v (by rw [List.getElem?_map, hq]; rfl), lb⟩,
    ⟨gc, rfl, cc1 _ _ x1, cc1 _ _ x2, cc1 _ _ x3, lc⟩, ⟨gd, rfl, cd1 _ _ x1, cd1 _ _ x2, cd1 _ _ x3, ld⟩, Sees.of_own o1, Sees.of_own o2⟩
theorem sees_grown {w w' : World} {v : Value} {xs : List Value} {row : Option Nat} (h : Sees w v xs) (hg : w.grownBy w' row) (hr : v.ownBlock = none ∨ v.ownBlock ≠ row) : Sees w' v xs := by
  obtain ⟨a, cap, hv, hN, hc, hm, hx⟩ := h
  refine ⟨a, cap, hv, hN, hc, hm, hx.imp id ?_⟩
  rintro ⟨g, off, ha, hlt, hx⟩
  refine ⟨g, off, ha, Nat.lt_of_lt_of_le hlt hg.size, fun j u hj => ?_⟩
  have hne : some g ≠ row := by
    subst hv ha
    rcases hr with hr | hr
    · cases hr
    · exact hr
  have hb := hg.block g hlt hne
  have := hx j u hj
  unfold World.cell? at this ⊢
  simp only [hb]
  exact this
theorem sees_keeps {w w' : World} {v a a' : Value} {xs : List Value} (h : Sees w v xs) (hk : Keeps w a a' w') (hr : Apart v a) : Sees w' v xs := sees_grown h hk.by hr
theorem sees_self {w w' : World} {B N cap n : Nat} {e : TypeId} {g : Nat} {u u' : Value} {xs zs : List Value} (h : Sees w (.slice (some ⟨g, 0, none⟩) n cap) xs) (hn : xs.length = n) (hk : Keeps w u u' w') (ho : w'.ownsRow B e 1 u' N (xs ++ zs)) (hN : 0 < N) : Sees w' (.slice (some ⟨g, 0, none⟩) n cap) xs := by
  rcases hk with ⟨h1, h2⟩ | ⟨_, h2⟩
  · by_cases hs : u.ownBlock = some g
    · obtain ⟨g', cap', hv, _, _, hlt, hc⟩ := own_at ho hN
      subst hv
      have hg : g' = g := by
        have : (Value.slice (some ⟨g', 0, none⟩) N cap').ownBlock = some g := h1.trans hs
        simpa [Value.ownBlock] using this
      subst hg
      obtain ⟨a, c, hv, hN2, hcc, hm, _⟩ := h
      rw [hn] at hv hcc
      cases hv
      refine ⟨_, cap, by rw [hn], hN2, by rw [hn]; exact hcc, hm, .inr ⟨g', 0, rfl, hlt, fun j x hj => ?_⟩⟩
      have hjl := (List.getElem?_eq_some_iff.1 hj).1
      rw [Nat.zero_add]
      exact hc j x (by rw [List.getElem?_append_left hjl]; exact hj)
    · exact sees_grown h h2 (.inr (fun e => hs e.symm))
  · exact sees_grown h h2 (.inr (by simp [Value.ownBlock]))
/-- the state while the rows are written full -/
structure Own3 (w : World) (rows : List Rw) (R : List Rc) (a c d : Value) (X : World) : Prop where
  bel : Below w.heap.size w X
  oa : X.ownsRow w.heap.size 30 1 a rows.length (rows.map Rw.v)
  oc : X.ownsRow w.heap.size 29 3 c R.length (recC R)
  od : X.ownsRow w.heap.size 29 3 d R.length (recC R)
  fr : Fam w.heap.size 5 1 rows X
theorem Own1.to3 {w X : World} {rows ws : List Rw} {R : List Rc} {a b c d : Value} (h : Own1 w rows ws R R a b c d X) : Own3 w rows R a c d X := ⟨h.bel, h.oa, h.oc, h.od, h.fr⟩
theorem own_setB {w : World} {B g cap n : Nat} {e : TypeId} {xs : List Value} (h : w.ownsRow B e 1 (.slice (some ⟨g, 0, none⟩) n cap) n xs) (p : Nat) (u : Value) : (w.setCell ⟨g, p, none⟩ u).ownsRow B e 1 (.slice (some ⟨g, 0, none⟩) n cap) n (xs.set p u) := by
  refine ⟨by rw [List.length_set]; exact h.1, ?_⟩
  rcases h.2 with ⟨h0, _⟩ | ⟨g', cap', cur, hv, hb, hg, hc, hm, hcs, htk⟩
  · cases h0
  · cases hv
    have hB : Blk w g e cur := hg
    refine .inr ⟨g, cap, cur.setIfInBounds p u, rfl, hb, hB.set_ p u, hc, hm, by rw [Array.size_setIfInBounds]; exact hcs, ?_⟩
    rw [Array.toList_setIfInBounds, List.take_set, htk]
theorem Own3.put {w X : World} {rows : List Rw} {R : List Rc} {a c d : Value} {i g n cap : Nat} {xs : List Value} (h : Own3 w rows R a c d X) (hi : rows[i]? = some ⟨.slice (some ⟨g, 0, none⟩) n cap, n, xs⟩) (k : Nat) (u : Value) :
    Own3 w (rows.set i ⟨.slice (some ⟨g, 0, none⟩) n cap, n, xs.set k u⟩) R a c d (X.setCell ⟨g, k, none⟩ u) := by
  have ho := h.fr.1 i _ hi
  have hil := (List.getElem?_eq_some_iff.1 hi).1
  have hgB := (own_ty ho rfl).1
  have hgr := only_set X g k u
  have hmap : (rows.set i ⟨.slice (some ⟨g, 0, none⟩) n cap, n, xs.set k u⟩).map Rw.v = rows.map Rw.v := by
    rw [List.map_set]
    apply List.ext_getElem?
    intro j
    by_cases hj : j = i
    · subst hj
      rw [List.getElem?_set_self (by simpa using hil), List.getElem?_map, hi]
      rfl
    · rw [List.getElem?_set_ne (Ne.symm hj)]
  have hap : ∀ {B s n' : Nat} {e : TypeId} {v : Value} {ys : List Value}, X.ownsRow B e s v n' ys → e ≠ 5 → v.ownBlock = none ∨ v.ownBlock ≠ some g := fun h1 h2 => apart_ty h1 ho h2
  refine ⟨h.bel.setCell (show w.heap.size ≤ (⟨g, k, none⟩ : Addr).block from hgB) u, ?_, own_grown h.oc hgr (hap h.oc (by decide)), own_grown h.od hgr (hap h.od (by decide)), ?_⟩
  · rw [hmap, List.length_set]
    exact own_grown h.oa hgr (hap h.oa (by decide))
  · exact h.fr.set hi (own_setB ho k u) hgr (fun j a hj ha => by have := h.fr.2 j i a _ hj ha hi; exact this)
/-- the rows up to the i-th hold their marks -/
def Full (rows : List Rw) (i : Nat) : Prop := ∀ (j : Nat) (r : Rw), j < i → rows[j]? = some r → r.xs = List.replicate r.n (bv (UInt8.ofNat (1 + j)))
/-- a value's block holds bytes -/
def Tyd (X : World) (v : Value) : Prop := ∀ g, v.ownBlock = some g → ∃ cur, X.heap[g]? = some (.cells cur 5 (0, 0))
theorem Tyd.lt {X : World} {v : Value} (h : Tyd X v) : ∀ g, v.ownBlock = some g → g < X.heap.size := fun g hg => by
  obtain ⟨cur, hc⟩ := h g hg
  exact (Array.getElem?_eq_some_iff.1 hc).1
theorem Tyd.below {X Y : World} {v : Value} (h : Tyd X v) (hb : Below X.heap.size X Y) : Tyd Y v := fun g hg => by
  obtain ⟨cur, hc⟩ := h g hg
  exact ⟨cur, (hb.block g (Array.getElem?_eq_some_iff.1 hc).1).trans hc⟩
theorem Tyd.keeps {X Y : World} {v u u' : Value} {B s n : Nat} {xs : List Value} (h : Tyd X v) (hk : Keeps X u u' Y) (ho : Y.ownsRow B 5 s u' n xs) : Tyd Y v := fun g hg => by
  obtain ⟨cur, hc⟩ := h g hg
  have hlt := (Array.getElem?_eq_some_iff.1 hc).1
  rcases hk with ⟨h1, h2⟩ | ⟨_, h2⟩
  · by_cases e : u.ownBlock = some g
    · exact (own_ty ho (h1.trans e)).2.2
    · exact ⟨cur, (h2.block g hlt (fun e0 => e e0.symm)).trans hc⟩
  · exact ⟨cur, (h2.block g hlt (by simp)).trans hc⟩
theorem Tyd.apart {X : World} {v m : Value} {B s n : Nat} {xs : List Value} (h : Tyd X v) (hm : X.ownsRow B 30 s m n xs) : Apart v m := by
  unfold Apart
  cases hv : v.ownBlock with
  | none => exact .inl rfl
  | some g =>
    refine .inr (fun e => ?_)
    obtain ⟨c1, h1⟩ := h g hv
    obtain ⟨_, _, c2, h2⟩ := own_ty hm e.symm
    rw [h1] at h2
    have := (Obj.cells.inj (Option.some.inj h2)).2.1
    exact absurd this (by decide)
/-- the state while the rows are gone on from -/
structure Own4 (w : World) (rows mores : List Rw) (i : Nat) (R : List Rc) (a c d m : Value) (X : World) : Prop where
  bel : Below w.heap.size w X
  oa : X.ownsRow w.heap.size 30 1 a rows.length (rows.map Rw.v)
  om : X.ownsRow w.heap.size 30 1 m mores.length (mores.map Rw.v)
  oc : X.ownsRow w.heap.size 29 3 c R.length (recC R)
  od : X.ownsRow w.heap.size 29 3 d R.length (recC R)
  am : Apart a m
  pr : ∀ (j k : Nat) (r q : Rw), j ≠ k → rows[j]? = some r → rows[k]? = some q → Apart r.v q.v
  fr : ∀ (j : Nat) (r : Rw), i ≤ j → rows[j]? = some r → X.ownsRow w.heap.size 5 1 r.v r.n r.xs
  fs : ∀ (j : Nat) (r : Rw), j < i → rows[j]? = some r → Sees X r.v r.xs
  fm : ∀ (j : Nat) (r q : Rw), j < i → rows[j]? = some r → mores[j]? = some q → X.ownsRow w.heap.size 5 1 q.v q.n q.xs ∧ q.n = r.n + 64 ∧ q.xs = r.xs ++ List.replicate 64 (bv (UInt8.ofNat (255 - j)))
  ap : ∀ (j k : Nat) (q r : Rw), j < k → i ≤ k → mores[j]? = some q → rows[k]? = some r → Apart q.v r.v
  ml : mores.length = i
  fb : ∀ (j : Nat) (r : Rw), rows[j]? = some r → Tyd X r.v
theorem Own3.to4 {w X : World} {rows : List Rw} {R : List Rc} {a c d : Value} (h : Own3 w rows R a c d X) : Own4 w rows [] 0 R a c d (.slice none 0 0) X :=
  ⟨h.bel, h.oa, World.ownsRow_nil _ _ _ _, h.oc, h.od, (Apart.symm (.inl rfl)), h.fr.2, fun j r _ hr => h.fr.1 j r hr, fun j r hj _ => absurd hj (by omega), fun j r q hj _ _ => absurd hj (by omega), fun j k q r _ _ hq _ => by simp at hq, rfl, fun j r hr g hg => (own_ty (h.fr.1 j r hr) hg).2.2⟩
section
variable {w X Y : World} {rows mores : List Rw} {i : Nat} {R : List Rc} {a c d m : Value}
theorem Own4.below (h : Own4 w rows mores i R a c d m X) (hb : Below X.heap.size X Y) : Own4 w rows mores i R a c d m Y :=
  ⟨bnx h.bel hb, own_below h.oa hb (Nat.le_refl _), own_below h.om hb (Nat.le_refl _), own_below h.oc hb (Nat.le_refl _), own_below h.od hb (Nat.le_refl _), h.am, h.pr, fun j r hj hr => own_below (h.fr j r hj hr) hb (Nat.le_refl _), fun j r hj hr => (h.fs j r hj hr).below hb, fun j r q hj hr hq => ⟨own_below (h.fm j r q hj hr hq).1 hb (Nat.le_refl _), (h.fm j r q hj hr hq).2⟩, h.ap, h.ml, fun j r hr => (h.fb j r hr).below hb⟩
theorem apart_keepsB {X Y : World} {v u u' : Value} (h : ∀ g, v.ownBlock = some g → g < X.heap.size) (hk : Keeps X u u' Y) (hr : Apart v u) : Apart v u' := by
  rcases hk with hk | hk
  · unfold Apart; rw [hk.1]; exact hr
  · unfold Apart
    rw [hk.1]
    cases hv : v.ownBlock with
    | none => exact .inl rfl
    | some g => exact .inr (fun e0 => by have := h g hv; have e1 := Option.some.inj e0; omega)
/-- row i, gone on from k times -/
structure Own5 (w : World) (rows mores : List Rw) (i : Nat) (R : List Rc) (a c d m : Value) (r : Rw) (k : Nat) (u : Value) (X : World) : Prop where
  bel : Below w.heap.size w X
  oa : X.ownsRow w.heap.size 30 1 a rows.length (rows.map Rw.v)
  om : X.ownsRow w.heap.size 30 1 m mores.length (mores.map Rw.v)
  oc : X.ownsRow w.heap.size 29 3 c R.length (recC R)
  od : X.ownsRow w.heap.size 29 3 d R.length (recC R)
  am : Apart a m
  pr : ∀ (j k : Nat) (r q : Rw), j ≠ k → rows[j]? = some r → rows[k]? = some q → Apart r.v q.v
  fr : ∀ (j : Nat) (r : Rw), i < j → rows[j]? = some r → X.ownsRow w.heap.size 5 1 r.v r.n r.xs
  fs : ∀ (j : Nat) (r : Rw), j ≤ i → rows[j]? = some r → Sees X r.v r.xs
  fm : ∀ (j : Nat) (r q : Rw), j < i → rows[j]? = some r → mores[j]? = some q → X.ownsRow w.heap.size 5 1 q.v q.n q.xs ∧ q.n = r.n + 64 ∧ q.xs = r.xs ++ List.replicate 64 (bv (UInt8.ofNat (255 - j)))
  ap : ∀ (j k : Nat) (q r : Rw), j < k → i < k → mores[j]? = some q → rows[k]? = some r → Apart q.v r.v
  ml : mores.length = i
  fb : ∀ (j : Nat) (r : Rw), rows[j]? = some r → Tyd X r.v
  ou : X.ownsRow w.heap.size 5 1 u (r.n + k) (r.xs ++ List.replicate k (bv (UInt8.ofNat (255 - i))))
  ur : ∀ (j : Nat) (q : Rw), j ≠ i → rows[j]? = some q → Apart q.v u
  um : ∀ (j : Nat) (q : Rw), mores[j]? = some q → Apart q.v u
theorem Own4.to5 (h : Own4 w rows mores i R a c d m X) {r : Rw} (hi : rows[i]? = some r) : Own5 w rows mores i R a c d m r 0 r.v X :=
  ⟨h.bel, h.oa, h.om, h.oc, h.od, h.am, h.pr, fun j q hj hq => h.fr j q (by omega) hq, fun j q hj hq => by
    rcases Nat.eq_or_lt_of_le hj with e | e
    · subst e
      exact Sees.of_own (h.fr j q (Nat.le_refl _) hq)
    · exact h.fs j q e hq, h.fm, fun j k q r hj hk hq hr => h.ap j k q r hj (by omega) hq hr, h.ml, h.fb, by simpa using h.fr i r (Nat.le_refl _) hi, fun j q hj hq => h.pr j i q r hj hq hi, fun j q hq => h.ap j i q r (by rw [← h.ml]; exact (List.getElem?_eq_some_iff.1 hq).1) (Nat.le_refl _) hq hi⟩
theorem Own5.below {r : Rw} {k : Nat} {u : Value} (h : Own5 w rows mores i R a c d m r k u X) (hb : Below X.heap.size X Y) : Own5 w rows mores i R a c d m r k u Y :=
  ⟨bnx h.bel hb, own_below h.oa hb (Nat.le_refl _), own_below h.om hb (Nat.le_refl _), own_below h.oc hb (Nat.le_refl _), own_below h.od hb (Nat.le_refl _), h.am, h.pr, fun j r hj hr => own_below (h.fr j r hj hr) hb (Nat.le_refl _), fun j r hj hr => (h.fs j r hj hr).below hb, fun j r q hj hr hq => ⟨own_below (h.fm j r q hj hr hq).1 hb (Nat.le_refl _), (h.fm j r q hj hr hq).2⟩, h.ap, h.ml, fun j r hr => (h.fb j r hr).below hb, own_below h.ou hb (Nat.le_refl _), h.ur, h.um⟩
theorem Own5.step {r : Rw} {k : Nat} {u u' : Value} (h : Own5 w rows mores i R a c d m r k u X) (hi : rows[i]? = some r) (hrl : r.xs.length = r.n) (hrv : ∃ g cap, r.v = .slice (some ⟨g, 0, none⟩) r.n cap)
    (ho : Y.ownsRow w.heap.size 5 1 u' (r.n + (k + 1)) (r.xs ++ List.replicate (k + 1) (bv (UInt8.ofNat (255 - i))))) (hk : Keeps X u u' Y) : Own5 w rows mores i R a c d m r (k + 1) u' Y := by
  have hap : ∀ {B s n' : Nat} {e : TypeId} {v : Value} {ys : List Value}, X.ownsRow B e s v n' ys → e ≠ 5 → Apart v u := fun h1 h2 => apart_ty h1 h.ou h2
  refine ⟨bel_keeps (B := 0) h.bel h.ou hk, own_keeps h.oa hk (hap h.oa (by decide)), own_keeps h.om hk (hap h.om (by decide)), own_keeps h.oc hk (hap h.oc (by decide)), own_keeps h.od hk (hap h.od (by decide)), h.am, h.pr, fun j q hj hq => own_keeps (h.fr j q hj hq) hk (h.ur j q (by omega) hq), fun j q hj hq => ?_, fun j q p hj hq hp => ⟨own_keeps (h.fm j q p hj hq hp).1 hk (h.um j p hp), (h.fm j q p hj hq hp).2⟩, h.ap, h.ml, fun j r hr => (h.fb j r hr).keeps hk ho, ho, fun j q hj hq => ?_, fun j q hq => ?_⟩
  · by_cases e : j = i
    · subst e
      obtain rfl : q = r := Option.some.inj (hq.symm.trans hi)
      obtain ⟨g, cap, hv⟩ := hrv
      have h1 := h.fs j q (Nat.le_refl _) hq
      rw [hv] at h1 ⊢
      exact sees_self h1 hrl hk ho (by omega)
    · exact sees_keeps (h.fs j q hj hq) hk (h.ur j q e hq)
  · exact apart_keepsB (h.fb j q hq).lt hk (h.ur j q hj hq)
  · have hjl : j < i := by rw [← h.ml]; exact (List.getElem?_eq_some_iff.1 hq).1
    have hjr : j < rows.length := Nat.lt_trans hjl (List.getElem?_eq_some_iff.1 hi).1
    exact Apart.keeps (h.fm j rows[j] q hjl (List.getElem?_eq_getElem hjr) hq).1 hk (h.um j q hq)
end
section
variable {w X Y : World} {rows mores : List Rw} {i : Nat} {R : List Rc} {a c d m : Value}
/-- the row gone on from is put behind the others -/
theorem Own5.to4 {r : Rw} {u m' : Value} (h : Own5 w rows mores i R a c d m r 64 u X) (hi : rows[i]? = some r) (ho : Y.ownsRow w.heap.size 30 1 m' (mores.length + 1) (mores.map Rw.v ++ [u])) (hk : Keeps X m m' Y) :
    Own4 w rows (mores ++ [⟨u, r.n + 64, r.xs ++ List.replicate 64 (bv (UInt8.ofNat (255 - i)))⟩]) (i + 1) R a c d m' Y := by
  have hty : ∀ {B s n' : Nat} {e : TypeId} {v : Value} {ys : List Value}, X.ownsRow B e s v n' ys → e ≠ 30 → Apart v m := fun h1 h2 => apart_ty h1 h.om h2
  have hss : ∀ (j : Nat) (q : Rw), j ≤ i → rows[j]? = some q → Sees Y q.v q.xs := fun j q hj hq => by
    exact sees_keeps (h.fs j q hj hq) hk ((h.fb j q hq).apart h.om)
  have hlast : ∀ (j : Nat) (q : Rw), (mores ++ [(⟨u, r.n + 64, r.xs ++ List.replicate 64 (bv (UInt8.ofNat (255 - i)))⟩ : Rw)])[j]? = some q → (j < i ∧ mores[j]? = some q) ∨ (j = i ∧ q = ⟨u, r.n + 64, r.xs ++ List.replicate 64 (bv (UInt8.ofNat (255 - i)))⟩) := by
    intro j q hq
    rcases Nat.lt_or_ge j mores.length with h1 | h1
    · rw [List.getElem?_append_left h1] at hq
      exact .inl ⟨by rw [← h.ml]; exact h1, hq⟩
    · rw [List.getElem?_append_right h1] at hq
      rcases Nat.eq_or_lt_of_le h1 with h2 | h2
      · rw [← h2, Nat.sub_self] at hq
        exact .inr ⟨by rw [← h2, h.ml], by simpa using hq.symm⟩
      · rw [List.getElem?_eq_none (by simp; omega)] at hq; cases hq
  refine ⟨bel_keeps (B := 0) h.bel h.om hk, own_keeps h.oa hk h.am, by simpa using ho, own_keeps h.oc hk (hty h.oc (by decide)), own_keeps h.od hk (hty h.od (by decide)), Apart.keeps h.oa hk h.am, h.pr, fun j q hj hq => own_keeps (h.fr j q (by omega) hq) hk (hty (h.fr j q (by omega) hq) (by decide)), fun j q hj hq => hss j q (by omega) hq, fun j q p hj hq hp => ?_, fun j k p q hj hk2 hp hq => ?_, by simp [h.ml], fun j r hr g hg => by
    obtain ⟨cur, hc⟩ := h.fb j r hr g hg
    have hne : some g ≠ m.ownBlock := by
      rcases (h.fb j r hr).apart h.om with e | e
      · rw [hg] at e; cases e
      · rw [hg] at e; exact e
    exact ⟨cur, (hk.by.block g (Array.getElem?_eq_some_iff.1 hc).1 hne).trans hc⟩⟩
  · rcases hlast j p hp with ⟨h1, h2⟩ | ⟨h1, h2⟩
    · obtain ⟨x1, x2⟩ := h.fm j q p h1 hq h2
      exact ⟨own_keeps x1 hk (hty x1 (by decide)), x2⟩
    · subst h1 h2
      obtain rfl : q = r := Option.some.inj (hq.symm.trans hi)
      exact ⟨own_keeps h.ou hk (hty h.ou (by decide)), rfl, rfl⟩
  · rcases hlast j p hp with ⟨h1, h2⟩ | ⟨h1, h2⟩
    · exact h.ap j k p q (by omega) (by omega) h2 hq
    · subst h1 h2
      exact (h.ur k q (by omega) hq).symm
end
theorem bv_num {k : Nat} (h : k < 256) : bv (UInt8.ofNat k) = .int .u8 (k : Int) := by
  unfold bv
  rw [UInt8.toNat_ofNat', Nat.mod_eq_of_lt (by omega)]
theorem wrap_one (q : Nat) (h : q ≤ 90) : (1 + (q : Int)) % 256 = 1 + (q : Int) := by omega
theorem wrap_oneW (q : Nat) (h : q ≤ 90) : wrap64 (1 + (q : Int)) % 256 = 1 + (q : Int) := by
  have : wrap64 (1 + (q : Int)) = 1 + (q : Int) := by
    unfold wrap64
    omega
  rw [this]
  exact wrap_one q h
def Bnd (rs : List Rw) : Prop := ∀ (j : Nat) (r : Rw), rs[j]? = some r → 1 ≤ r.n ∧ r.n ≤ 120
theorem Cont.bnd {rows : List Rw} {R : List Rc} (h : Cont rows R) (hok : ∀ p ∈ R, okP p) : Bnd rows := by
  intro j r hr
  have hj := (List.getElem?_eq_some_iff.1 hr).1
  have hjR : j < R.length := by rw [← h.len]; exact hj
  obtain ⟨q, hq, hn, _⟩ := h.at (List.getElem?_eq_getElem hjR)
  obtain rfl : q = r := Option.some.inj (hq.symm.trans hr)
  have h1 := hok R[j] (List.getElem_mem hjR)
  rw [hn, encB_len _ h1]
  have := h1.2.2
  omega
theorem Bnd.set {rs : List Rw} (h : Bnd rs) {i : Nat} {r : Rw} (hi : rs[i]? = some r) (xs : List Value) : Bnd (rs.set i ⟨r.v, r.n, xs⟩) := by
  intro j q hq
  have hil := (List.getElem?_eq_some_iff.1 hi).1
  by_cases hj : j = i
  · subst hj
    rw [List.getElem?_set_self hil] at hq
    cases hq
    exact h j r hi
  · rw [List.getElem?_set_ne (Ne.symm hj)] at hq
    exact h j q hq
theorem Full.set {rs : List Rw} {i : Nat} (h : Full rs i) (q : Rw) : Full (rs.set i q) i := by
  intro j r hj hr
  rw [List.getElem?_set_ne (by omega)] at hr
  exact h j r hj hr
theorem sees_cells {X : World} {g n cap : Nat} {xs : List Value} (h : Sees X (.slice (some ⟨g, 0, none⟩) n cap) xs) (hn : xs.length = n) (h0 : 0 < n) : ∀ j u, xs[j]? = some u → X.cell? ⟨g, j, none⟩ = some u := by
  obtain ⟨a, c, hv, _, _, _, hx⟩ := h
  rw [hn] at hv
  cases hv
  rcases hx with hx | ⟨g', off, ha, _, hx⟩
  · subst hx; simp at hn; omega
  · cases ha
    intro j u hj
    have := hx j u hj
    rwa [Nat.zero_add] at this
theorem own_frz {X : World} {B s n g cap : Nat} {e : TypeId} {xs : List Value} (h : X.ownsRow B e s (.slice (some ⟨g, 0, none⟩) n cap) n xs) (k : Nat) : X.frozen? ⟨g, k, none⟩ = false := by
  rcases h.2 with ⟨h0, _⟩ | ⟨g', cap', cur, hv, _, hg, _⟩
  · cases h0
  · cases hv
    have hB : Blk X g e cur := hg
    exact hB.frozen k
theorem own_xs {X : World} {B n : Nat} {e : TypeId} {v : Value} {xs : List Value} (h : X.ownsRow B e 1 v n xs) : xs.length = n := by have := h.1; omega
theorem rep_set {xs : List Value} {m : Nat} {u : Value} (hm : m < xs.length) (h : xs.take m = List.replicate m u) : (xs.set m u).take (m + 1) = List.replicate (m + 1) u := by
  rw [List.take_add_one, List.take_set_of_le (Nat.le_refl m), h, List.getElem?_set_self hm, List.replicate_succ']
  rfl
theorem app_u8k {B : Nat} {v : Value} {n : Nat} {xs : List Value} {w : World} (y : Value) (hy : y.oneCell' = true) {ops : Array Oper} {rest : List Oper} {o : Oper} {a : Act} {Q : Exit → Act → World → Prop} {s x : Operand}
    (hown : w.ownsRow B 5 1 v n xs) (hgd : o.guard = none) (ho : o.op = .call { callee := .builtin .append, args := #[s, x], argTypes := #[30, 30] })
    (hs : a.eval s = v) (hx : a.eval x = .slice (some ⟨w.heap.size, 0, none⟩) 1 1) (hn : n ≤ 1000000) (hB : B ≤ w.heap.size)
    (h : ∀ v' w', w'.ownsRow B 5 1 v' (n + 1) (xs ++ [y]) → Keeps (w.alloc (.cells #[y] 5)) v v' w' → wpList Try.prog ops Q rest (a.put o.dst v') w') : wpList Try.prog ops Q (o :: rest) a (w.alloc (.cells #[y] 5)) := by
  obtain ⟨i0, hi, hz0, hz1, hz2⟩ := info_parts info_u8o
  exact wpList_append_keep _ hgd s x 30 ho B 5 i0 _ 1 1 Try.underlying30 hi hz0 hz1 hz2 rfl (by decide) v n _ hs (hown.alloc _) ⟨w.heap.size, 0, none⟩ 1 1 [y] hx rfl (cell_one_new _ _ _)
    (by simp [hy]) (by decide) (by simp only [maxLen]; omega) (by omega) (by simp; omega) h
/-- a record in a box -/
def BoxR (w : World) (g : Nat) (p : Rc) (X : World) : Prop := Blk X g 29 #[.int .i64 p.1, .int .i64 1, .string p.2] ∧ Below w.heap.size w X
theorem BoxR.new (w : World) (p : Rc) : BoxR w w.heap.size p (w.alloc (.cells #[.int .i64 p.1, .int .i64 1, .string p.2] 29)) := ⟨Blk.new _ _ _, bal (Below.refl _ _) _⟩
theorem BoxR.go {w X Y : World} {g : Nat} {p : Rc} (h : BoxR w g p X) (hb : Below X.heap.size X Y) : BoxR w g p Y := ⟨h.1.below hb h.1.lt, bnx h.2 hb⟩
theorem blk_keeps {X Y : World} {g B s n : Nat} {t e : TypeId} {cs : Array Value} {v v' : Value} {xs : List Value} (h : Blk X g t cs) (ho : X.ownsRow B e s v n xs) (hk : Keeps X v v' Y) (hne : t ≠ e) : Blk Y g t cs := h.grown hk.by (blk_apart h ho hne)
end Go.Proofs.Ytfilbjooebnbkaa.Lg
