/- RunRenders: replies, the lines of their texts, their weights: plain law, no program. -/
import Derived.Test.YtmcijdpbjhcimaaDoorMm
import Derived.Lib.Join
namespace Go.Proofs.YtmcijdpbjhcimaaDoor.Rn
open Go.RowKit Mm
structure Rep where
  kd : Int
  fd : Bool
  sp : ByteArray
  wi : ByteArray
  po : List ByteArray
  en : List ByteArray
  fi : ByteArray
  li : List ByteArray
  mo : Bool
def bs (s : ByteArray) : List UInt8 := s.data.toList
theorem bs_len (s : ByteArray) : (bs s).length = s.size := len_s s
theorem bs_str (l : List UInt8) : bs (str l) = l := rfl
theorem bs_app (a b : ByteArray) : bs (a ++ b) = bs a ++ bs b := by simp [bs, ByteArray.data_append]
theorem bs_lit (a : Array UInt8) : bs ⟨a⟩ = a.toList := rfl
def wordT (k : Int) : List UInt8 :=
  if k = 1 then [114, 101, 97, 99, 104] else if k = 2 then [109, 105, 115, 115, 101, 100] else if k = 3 then [108, 111, 111, 112] else if k = 4 then [108, 111, 115, 116]
  else if k = 5 then [105, 115, 111, 108, 97, 116, 101] else if k = 6 then [112, 97, 116, 104] else if k = 7 then [97, 118, 111, 105, 100] else if k = 8 then [99, 111, 118, 101, 114] else if k = 9 then [116, 114, 97, 99, 101]
  else [114, 101, 112, 108, 121]
theorem wordT_len (k : Int) : (wordT k).length ≤ 7 := by unfold wordT; (repeat' split) <;> decide
def fdT (b : Bool) : List UInt8 := if b then [58, 32, 102, 111, 117, 110, 100] else [58, 32, 110, 111, 110, 101]
def joinT (sep : List UInt8) (l : List ByteArray) : List UInt8 := Lib.join (l.map bs) sep
def partL (b : Bool) (h t : List UInt8) : List (List UInt8) := if b then [[32, 32] ++ (h ++ t)] else []
def hSp : List UInt8 := [115, 112, 97, 99, 101, 32]
def hWi : List UInt8 := [119, 105, 116, 110, 101, 115, 115, 32]
def hPo : List UInt8 := [112, 97, 116, 104, 32]
def hEn : List UInt8 := [98, 121, 32]
def hFi : List UInt8 := [102, 105, 110, 97, 108, 32]
def hMo : List UInt8 := [109, 111, 114, 101]
def ofLine (s : ByteArray) : List UInt8 := [32, 32] ++ bs s
/-- the lines of a reply -/
def told1 (y : Rep) : List (List UInt8) := [wordT y.kd ++ fdT y.fd]
def told2 (y : Rep) : List (List UInt8) := told1 y ++ partL (decide (0 < y.sp.size)) hSp (bs y.sp)
def told3 (y : Rep) : List (List UInt8) := told2 y ++ partL (decide (0 < y.wi.size)) hWi (bs y.wi)
def told4 (y : Rep) : List (List UInt8) := told3 y ++ partL (decide (0 < y.po.length)) hPo (joinT [32] y.po)
def told5 (y : Rep) : List (List UInt8) := told4 y ++ partL (decide (0 < y.en.length)) hEn (joinT [44, 32] y.en)
def told6 (y : Rep) : List (List UInt8) := told5 y ++ partL (decide (0 < y.fi.size)) hFi (bs y.fi)
def told7 (y : Rep) (k : Nat) : List (List UInt8) := told6 y ++ (y.li.take k).map ofLine
def toldT (y : Rep) : List (List UInt8) := told7 y y.li.length ++ partL y.mo hMo []
/-- lines, each with its end -/
def linesT (ls : List (List UInt8)) : List UInt8 := ls.flatMap (· ++ [10])
theorem linesT_app (a b : List (List UInt8)) : linesT (a ++ b) = linesT a ++ linesT b := by simp [linesT]
theorem linesT_nil : linesT [] = [] := rfl
theorem linesT_one (x : List UInt8) : linesT [x] = x ++ [10] := by simp [linesT]
theorem part_lines (l : List UInt8) (b : Bool) (h t : List UInt8) : l ++ linesT (partL b h t) = if b then l ++ ([32, 32] ++ h ++ t ++ [10]) else l := by
  unfold partL
  cases b
  · simp [linesT]
  · simp [linesT]
def repsT (R : List Rep) : List (List UInt8) := R.flatMap toldT
def rendR (R : List Rep) : List UInt8 := linesT (repsT R)
theorem rendR_snoc {R : List Rep} {k : Nat} (h : k < R.length) : rendR (R.take (k + 1)) = rendR (R.take k) ++ linesT (toldT R[k]) := by
  unfold rendR repsT
  rw [List.take_succ_eq_append_getElem h, List.flatMap_append, linesT_app]
  simp
/-! Weights. -/
def wL (l : List ByteArray) : Nat := (l.map fun s => s.size + 20).sum
def wY (y : Rep) : Nat := 300 + y.sp.size + y.wi.size + y.fi.size + wL y.po + wL y.en + wL y.li
def wR (R : List Rep) : Nat := (R.map wY).sum
theorem wL_nil : wL [] = 0 := rfl
theorem wL_cons (x : ByteArray) (l : List ByteArray) : wL (x :: l) = x.size + 20 + wL l := by simp [wL]
theorem wL_app (a b : List ByteArray) : wL (a ++ b) = wL a + wL b := by simp [wL]
theorem wL_take_le (l : List ByteArray) (k : Nat) : wL (l.take k) ≤ wL l := by
  conv => rhs; rw [← List.take_append_drop k l, wL_app]
  omega
theorem wL_len (l : List ByteArray) : l.length * 20 ≤ wL l := by
  induction l with
  | nil => simp
  | cons x l ih => rw [wL_cons, List.length_cons]; omega
theorem wL_mem {l : List ByteArray} {s : ByteArray} (h : s ∈ l) : s.size + 20 ≤ wL l := by
  induction l with
  | nil => cases h
  | cons x l ih =>
    rw [wL_cons]
    rcases List.mem_cons.1 h with rfl | h
    · omega
    · have := ih h; omega
theorem lens_bs (l : List ByteArray) : Lib.lens (l.map bs) + l.length * 20 = wL l := by
  induction l with
  | nil => rfl
  | cons x l ih =>
    rw [wL_cons, ← ih, List.map_cons, List.length_cons]
    have : Lib.lens (bs x :: l.map bs) = (bs x).length + Lib.lens (l.map bs) := by simp [Lib.lens]
    rw [this, bs_len]
    omega
theorem join_w (sep : List UInt8) (hs : sep.length ≤ 2) (l : List ByteArray) : (joinT sep l).length + l.length * 18 ≤ wL l := by
  cases l with
  | nil => simp [joinT, Lib.join_nil]
  | cons x l =>
    have h := lens_bs (x :: l)
    unfold joinT
    rw [List.map_cons, Lib.join_length, ← List.map_cons, List.length_map]
    have : sep.length * l.length ≤ 2 * l.length := Nat.mul_le_mul_right _ hs
    rw [List.length_cons] at h ⊢
    omega
theorem len_app (a b : List UInt8) : (a ++ b).length = a.length + b.length := List.length_append
theorem part_len (b : Bool) (h t : List UInt8) : (linesT (partL b h t)).length ≤ h.length + t.length + 3 := by
  unfold partL
  cases b
  · simp [linesT]
  · simp [linesT]; omega
theorem lines_w (l : List ByteArray) : (linesT (l.map ofLine)).length + l.length * 17 = wL l := by
  induction l with
  | nil => rfl
  | cons x l ih =>
    rw [List.map_cons, wL_cons, ← ih, List.length_cons]
    have : linesT (ofLine x :: l.map ofLine) = ofLine x ++ [10] ++ linesT (l.map ofLine) := by simp [linesT]
    rw [this, len_app, len_app]
    have : (ofLine x).length = x.size + 2 := by unfold ofLine; rw [len_app, bs_len]; simp; omega
    rw [this]
    simp only [List.length_cons, List.length_nil]
    omega
theorem told6_len (y : Rep) : (linesT (told6 y)).length + 200 + wL y.li ≤ wY y := by
  unfold told6 told5 told4 told3 told2 told1
  simp only [linesT_app, len_app]
  have h1 := part_len (decide (0 < y.sp.size)) hSp (bs y.sp)
  have h2 := part_len (decide (0 < y.wi.size)) hWi (bs y.wi)
  have h3 := part_len (decide (0 < y.po.length)) hPo (joinT [32] y.po)
  have h4 := part_len (decide (0 < y.en.length)) hEn (joinT [44, 32] y.en)
  have h5 := part_len (decide (0 < y.fi.size)) hFi (bs y.fi)
  have j3 := join_w [32] (by decide) y.po
  have j4 := join_w [44, 32] (by decide) y.en
  have e1 : (linesT [wordT y.kd ++ fdT y.fd]).length ≤ 15 := by
    rw [linesT_one, len_app, len_app]
    have := wordT_len y.kd
    have : (fdT y.fd).length ≤ 7 := by unfold fdT; split <;> decide
    simp only [List.length_cons, List.length_nil]
    omega
  rw [bs_len] at h1 h2 h5
  unfold wY
  have : hSp.length = 6 := rfl
  have : hWi.length = 8 := rfl
  have : hPo.length = 5 := rfl
  have : hEn.length = 3 := rfl
  have : hFi.length = 6 := rfl
  omega
theorem told7_len (y : Rep) (k : Nat) : (linesT (told7 y k)).length + 200 ≤ wY y := by
  have h := told6_len y
  have h2 := lines_w (y.li.take k)
  have h3 := wL_take_le y.li k
  unfold told7
  rw [linesT_app, len_app]
  omega
theorem told_len (y : Rep) : (linesT (toldT y)).length ≤ wY y := by
  have h := told7_len y y.li.length
  have h2 := part_len y.mo hMo []
  have : hMo.length = 4 := rfl
  unfold toldT
  rw [linesT_app, len_app]
  simp only [List.length_nil] at h2
  omega
theorem told7_succ (y : Rep) {k : Nat} (h : k < y.li.length) : told7 y (k + 1) = told7 y k ++ [ofLine y.li[k]] := by
  unfold told7
  rw [List.take_succ_eq_append_getElem h, List.map_append, ← List.append_assoc]
  rfl
theorem wR_nil : wR [] = 0 := rfl
theorem wR_app (a b : List Rep) : wR (a ++ b) = wR a + wR b := by simp [wR]
theorem wR_cons (x : Rep) (l : List Rep) : wR (x :: l) = wY x + wR l := by simp [wR]
theorem wR_take_le (l : List Rep) (k : Nat) : wR (l.take k) ≤ wR l := by
  conv => rhs; rw [← List.take_append_drop k l, wR_app]
  omega
theorem wR_mem {l : List Rep} {s : Rep} (h : s ∈ l) : wY s ≤ wR l := by
  induction l with
  | nil => cases h
  | cons x l ih =>
    rw [wR_cons]
    rcases List.mem_cons.1 h with rfl | h
    · omega
    · have := ih h; omega
theorem wR_len (l : List Rep) : l.length * 300 ≤ wR l := by
  induction l with
  | nil => simp
  | cons x l ih =>
    have h : 300 ≤ wY x := by unfold wY; omega
    have e : (x :: l).length * 300 = l.length * 300 + 300 := by rw [List.length_cons, Nat.add_mul]
    rw [wR_cons, e]
    exact Nat.le_trans (Nat.le_of_eq (Nat.add_comm _ _)) (Nat.add_le_add h ih)
theorem rendR_len (R : List Rep) : (rendR R).length ≤ wR R := by
  unfold rendR repsT
  induction R with
  | nil => simp [linesT]
  | cons x l ih =>
    rw [List.flatMap_cons, linesT_app, len_app, wR_cons]
    have := told_len x
    omega
theorem told_many (y : Rep) : (toldT y).length ≤ 7 + y.li.length := by
  have p1 : ∀ (b : Bool) (h t : List UInt8), (partL b h t).length ≤ 1 := by intro b h t; unfold partL; cases b <;> simp
  unfold toldT told7 told6 told5 told4 told3 told2 told1
  simp only [List.length_append, List.length_map, List.take_length, List.length_cons, List.length_nil]
  have h1 := p1 (decide (0 < y.sp.size)) hSp (bs y.sp)
  have h2 := p1 (decide (0 < y.wi.size)) hWi (bs y.wi)
  have h3 := p1 (decide (0 < y.po.length)) hPo (joinT [32] y.po)
  have h4 := p1 (decide (0 < y.en.length)) hEn (joinT [44, 32] y.en)
  have h5 := p1 (decide (0 < y.fi.size)) hFi (bs y.fi)
  have h6 := p1 y.mo hMo []
  omega
theorem reps_many (R : List Rep) : (repsT R).length ≤ wR R := by
  unfold repsT
  induction R with
  | nil => simp
  | cons x l ih =>
    rw [List.flatMap_cons, List.length_append, wR_cons]
    have h1 := told_many x
    have h2 := wL_len x.li
    have : 300 + wL x.li ≤ wY x := by unfold wY; omega
    omega
/-! What the statement writes over. -/
def turnW : ByteArray := ⟨#[116, 117, 114, 110, 101, 100]⟩
def portW : ByteArray := ⟨#[84, 46, 116]⟩
def turn (y : Rep) : Rep := { y with fd := !y.fd, sp := turnW, li := List.replicate y.li.length turnW, po := List.replicate y.po.length portW }
theorem wL_rep (n : Nat) (s : ByteArray) : wL (List.replicate n s) = n * (s.size + 20) := by simp [wL, List.map_replicate, List.sum_replicate_nat]
theorem turn_w (y : Rep) : wY (turn y) ≤ 2 * wY y := by
  unfold wY turn
  simp only [wL_rep]
  have e1 : turnW.size = 6 := rfl
  have e2 : portW.size = 3 := rfl
  rw [e1, e2]
  have := wL_len y.po
  have := wL_len y.li
  omega
def turned (R : List Rep) (k : Nat) : List Rep := (R.take k).map turn ++ R.drop k
theorem turned_len (R : List Rep) (k : Nat) : (turned R k).length = R.length := by
  unfold turned
  rw [List.length_append, List.length_map, ← List.length_append, List.take_append_drop]
theorem turned_w (R : List Rep) (k : Nat) : wR (turned R k) ≤ 2 * wR R := by
  have h1 : ∀ l : List Rep, wR (l.map turn) ≤ 2 * wR l := by
    intro l
    induction l with
    | nil => simp [wR]
    | cons x l ih => rw [List.map_cons, wR_cons, wR_cons]; have := turn_w x; omega
  have h2 := h1 (R.take k)
  have h3 : wR R = wR (R.take k) + wR (R.drop k) := by rw [← wR_app, List.take_append_drop]
  unfold turned
  rw [wR_app]
  omega
theorem turned_zero (R : List Rep) : turned R 0 = R := by simp [turned]
theorem turned_at {R : List Rep} {k : Nat} (h : k < R.length) : (turned R k)[k]? = some R[k] := by
  unfold turned
  have : ((R.take k).map turn).length = k := by simp; omega
  rw [List.getElem?_append_right (by omega), this, Nat.sub_self, List.getElem?_drop, Nat.add_zero, List.getElem?_eq_getElem h]
theorem turned_succ {R : List Rep} {k : Nat} (h : k < R.length) : turned R (k + 1) = (turned R k).set k (turn R[k]) := by
  unfold turned
  have hl : ((R.take k).map turn).length = k := by simp; omega
  rw [List.set_append_right _ _ (by omega), hl, Nat.sub_self, List.take_succ_eq_append_getElem h, List.map_append, List.append_assoc]
  congr 1
  rw [List.drop_eq_getElem_cons h]
  rfl
end Go.Proofs.YtmcijdpbjhcimaaDoor.Rn
