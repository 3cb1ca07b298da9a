/- Plain law of records on bytes. No program in sight. -/
import Derived.Test.YtndclkphglpknaaDoorCr
namespace Go.Proofs.YtndclkphglpknaaDoor.Lg
/-- a number's four bytes -/
def fb (n k : Nat) : UInt8 := UInt8.ofNat (n / 2 ^ (24 - 8 * k) % 256)
def four (n : Nat) : List UInt8 := [fb n 0, fb n 1, fb n 2, fb n 3]
theorem four_len (n : Nat) : (four n).length = 4 := rfl
theorem four_at (n k : Nat) (h : k < 4) : (four n)[k]'(by rw [four_len]; exact h) = fb n k := by
  have : k = 0 ∨ k = 1 ∨ k = 2 ∨ k = 3 := by omega
  rcases this with rfl | rfl | rfl | rfl <;> rfl
theorem fb_nat (n k : Nat) : (fb n k).toNat = n / 2 ^ (24 - 8 * k) % 256 := by
  unfold fb
  rw [UInt8.toNat_ofNat']
  exact Nat.mod_eq_of_lt (Nat.mod_lt _ (by decide))
/-- four bytes' number -/
def num4 (l : List UInt8) : Nat := l.foldl (fun n b => n * 256 + b.toNat) 0
theorem num_four (n : Nat) (h : n < 4294967296) : num4 (four n) = n := by
  simp only [num4, four, List.foldl_cons, List.foldl_nil, fb_nat]
  omega
theorem four_num (a b c d : UInt8) : four (num4 [a, b, c, d]) = [a, b, c, d] := by
  have ha := a.toNat_lt
  have hb := b.toNat_lt
  have hc := c.toNat_lt
  have hd := d.toNat_lt
  simp only [num4, four, List.foldl_cons, List.foldl_nil, List.cons.injEq, and_true]
  refine ⟨?_, ?_, ?_, ?_⟩ <;> (apply UInt8.toNat_inj.1; rw [fb_nat]; simp only [Nat.reduceMul, Nat.reduceSub, Nat.reducePow]; omega)
/-- bytes written over a list from a place on -/
def putL (l : List UInt8) (at_ : Nat) (bs : List UInt8) : List UInt8 := l.take at_ ++ bs ++ l.drop (at_ + bs.length)
theorem putL_nil (l : List UInt8) (i : Nat) : putL l i [] = l := by simp [putL]
theorem putL_len (l : List UInt8) (i : Nat) (bs : List UInt8) (h : i + bs.length ≤ l.length) : (putL l i bs).length = l.length := by simp [putL]; omega
theorem putL_snoc (l : List UInt8) (i : Nat) (bs : List UInt8) (b : UInt8) (h : i + bs.length < l.length) : putL l i (bs ++ [b]) = (putL l i bs).set (i + bs.length) b := by
  unfold putL
  have h1 : (l.take i).length = i := by simp; omega
  rw [List.set_append_right _ _ (by simp; omega)]
  have e : i + bs.length - (List.take i l ++ bs).length = 0 := by simp; omega
  rw [e]
  have e2 : l.drop (i + bs.length) = l[i + bs.length] :: l.drop (i + bs.length + 1) := List.drop_eq_getElem_cons h
  rw [e2]
  simp [Nat.add_assoc]
/-- in a list of three parts the middle one is written over -/
theorem putL_mid (a b c bs : List UInt8) (h : b.length = bs.length) : putL (a ++ b ++ c) a.length bs = a ++ bs ++ c := by
  unfold putL
  rw [← h]
  simp [List.drop_append]
theorem putL_cons (l : List UInt8) (o : Nat) (b : UInt8) (r : List UInt8) (h : o + r.length < l.length) : putL l o (b :: r) = putL (l.set o b) (o + 1) r := by
  unfold putL
  rw [List.length_cons, show o + (r.length + 1) = o + 1 + r.length by omega, List.drop_set_of_lt (by omega), List.take_set, List.take_succ_eq_append_getElem (by omega)]
  rw [List.set_append_right _ _ (by simp; omega)]
  have e : o - (List.take o l).length = 0 := by simp; omega
  rw [e]
  simp
def recOk (kind seq : Int) : Prop := 1 ≤ kind ∧ kind ≤ 4 ∧ 1 ≤ seq ∧ seq ≤ 2147483647
instance (kind seq : Int) : Decidable (recOk kind seq) := by unfold recOk; infer_instance
def head0 (kind seq n : Nat) : List UInt8 := [82, 76, UInt8.ofNat kind, 0] ++ four seq ++ four n
def head1 (kind seq n : Nat) : List UInt8 := head0 kind seq n ++ four (crc (head0 kind seq n))
/-- a record's bytes -/
def enc (kind seq : Nat) (t : List UInt8) : List UInt8 := head1 kind seq t.length ++ t ++ four (crc (head1 kind seq t.length ++ t))
theorem head0_len (kind seq n : Nat) : (head0 kind seq n).length = 12 := rfl
theorem head1_len (kind seq n : Nat) : (head1 kind seq n).length = 16 := rfl
theorem enc_len (kind seq : Nat) (t : List UInt8) : (enc kind seq t).length = t.length + 20 := by simp [enc, head1_len, four_len]; omega
def encE (kind seq : Int) (t : List UInt8) : Int := if 16384 < t.length then 2 else if recOk kind seq then 0 else 190
def encT (kind seq : Int) (t : List UInt8) : List UInt8 := if encE kind seq t = 0 then enc kind.toNat seq.toNat t else []
/-- the program's way: zeros, written over part by part -/
def e0 (n : Nat) : List UInt8 := List.replicate (n + 20) 0
def e1 (kind n : Nat) : List UInt8 := ((e0 n).set 0 82).set 1 76 |>.set 2 (UInt8.ofNat kind)
def zs (n : Nat) : List UInt8 := List.replicate n 0
theorem e0_eq (n : Nat) : e0 n = [0, 0, 0, 0] ++ zs 4 ++ zs 4 ++ zs 4 ++ zs n ++ zs 4 := by
  unfold e0 zs
  rw [show ([0, 0, 0, 0] : List UInt8) = List.replicate 4 0 from rfl]
  simp only [List.replicate_append_replicate]
  congr 1
  omega
theorem e1_eq (kind n : Nat) : e1 kind n = [82, 76, UInt8.ofNat kind, 0] ++ zs 4 ++ zs 4 ++ zs 4 ++ zs n ++ zs 4 := by
  unfold e1
  rw [e0_eq]
  rfl
theorem steps (kind seq : Nat) (t : List UInt8) :
    putL (e1 kind t.length) 4 (four seq) = [82, 76, UInt8.ofNat kind, 0] ++ four seq ++ zs 4 ++ zs 4 ++ zs t.length ++ zs 4 ∧
    putL ([82, 76, UInt8.ofNat kind, 0] ++ four seq ++ zs 4 ++ zs 4 ++ zs t.length ++ zs 4) 8 (four t.length) = head0 kind seq t.length ++ zs 4 ++ zs t.length ++ zs 4 ∧
    putL (head0 kind seq t.length ++ zs 4 ++ zs t.length ++ zs 4) 12 (four (crc (head0 kind seq t.length))) = head1 kind seq t.length ++ zs t.length ++ zs 4 ∧
    putL (head1 kind seq t.length ++ zs t.length ++ zs 4) 16 t = head1 kind seq t.length ++ t ++ zs 4 ∧
    putL (head1 kind seq t.length ++ t ++ zs 4) (16 + t.length) (four (crc (head1 kind seq t.length ++ t))) = enc kind seq t := by
  refine ⟨?_, ?_, ?_, ?_, ?_⟩
  · rw [e1_eq]
    have := putL_mid [82, 76, UInt8.ofNat kind, 0] (zs 4) (zs 4 ++ zs 4 ++ zs t.length ++ zs 4) (four seq) rfl
    simpa [List.append_assoc] using this
  · have := putL_mid ([82, 76, UInt8.ofNat kind, 0] ++ four seq) (zs 4) (zs 4 ++ zs t.length ++ zs 4) (four t.length) rfl
    unfold head0
    simpa [List.append_assoc, four_len] using this
  · have := putL_mid (head0 kind seq t.length) (zs 4) (zs t.length ++ zs 4) (four (crc (head0 kind seq t.length))) rfl
    unfold head1
    simpa [List.append_assoc, head0_len] using this
  · have := putL_mid (head1 kind seq t.length) (zs t.length) (zs 4) t (by simp [zs])
    simpa [List.append_assoc, head1_len] using this
  · have := putL_mid (head1 kind seq t.length ++ t) (zs 4) [] (four (crc (head1 kind seq t.length ++ t))) rfl
    unfold enc
    simpa [List.append_assoc, head1_len] using this
theorem takes (kind seq : Nat) (t : List UInt8) : (head0 kind seq t.length ++ zs 4 ++ zs t.length ++ zs 4).take 12 = head0 kind seq t.length ∧ (head1 kind seq t.length ++ t ++ zs 4).take (16 + t.length) = head1 kind seq t.length ++ t := by
  refine ⟨?_, ?_⟩
  · rw [List.append_assoc, List.append_assoc]
    exact List.take_left' (head0_len ..)
  · exact List.take_left' (by simp [head1_len])
end Go.Proofs.YtndclkphglpknaaDoor.Lg
