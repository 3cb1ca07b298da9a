/- The document's Quote, function by function. -/
import Derived.Test.YtcikhbbljhkheaaDoorQl
namespace Go.Proofs.YtcikhbbljhkheaaDoor.Sn
open Go.RowKit Mm
set_option linter.unusedVariables false
def inB (s : ByteArray) (j lo hi : Nat) : Bool := decide (j < s.size ∧ lo ≤ (s.get! j).toNat ∧ (s.get! j).toNat ≤ hi)
theorem get_in (s : ByteArray) (j : Nat) (h : j < s.size) : s[j] = s.get! j := by
  have h' : j < s.data.size := h
  show s.data[j] = s.data[j]!
  rw [getElem!_pos s.data j h']
set_option maxRecDepth 100000 in
set_option maxHeartbeats 4000000 in
theorem within_any (s : ByteArray) (j lo hi : Nat) (w : World) : Calls Tryd.prog 22 #[.string s, .int .i64 (j : Int), .int .u8 (lo : Int), .int .u8 (hi : Int)] w fun e w' => e = .returned (.bool (inB s j lo hi)) ∧ w = w' := by
  by_cases hj : j < s.size
  · have hb : inB s j lo hi = (decide (lo ≤ s[j].toNat) && decide (s[j].toNat ≤ hi)) := by unfold inB; rw [get_in s j hj]; simp [hj]
    rw [hb]
    by_cases h1 : lo ≤ s[j].toNat
    · go_enter Tryd.func22, Tryd.ntmps22
      go_wp2
      go_ret
      exact ⟨by simp [h1], rfl⟩
    · go_enter Tryd.func22, Tryd.ntmps22
      go_wp2
      go_ret
      exact ⟨by simp [h1], rfl⟩
  · have hb : inB s j lo hi = false := by unfold inB; simp [hj]
    rw [hb]
    go_enter Tryd.func22, Tryd.ntmps22
    go_wp2
    go_ret
    exact ⟨rfl, rfl⟩
def szS (s : ByteArray) (i : Nat) : Nat × Bool := szN (s.size - i) (s.get! i).toNat (s.get! (i + 1)).toNat (s.get! (i + 2)).toNat (s.get! (i + 3)).toNat
theorem szS_dec (s : ByteArray) (i : Nat) (h : i < s.size) : szS s i = ((Utf8.decode s i).2, decide (Utf8.decode s i = (65533, 1))) := by
  rw [Lib.decode_at]
  exact sz_dec _ _ _ _ _ (by omega) (get_lt _ _) (get_lt _ _) (get_lt _ _) (get_lt _ _)
end Go.Proofs.YtcikhbbljhkheaaDoor.Sn
