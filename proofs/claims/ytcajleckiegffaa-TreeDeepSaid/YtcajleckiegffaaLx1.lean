import Derived.Test.YtcajleckiegffaaGLex
import Derived.Test.YtcajleckiegffaaAmX
namespace Go.Proofs.Ytcajleckiegffaa
set_option linter.unusedSimpArgs false
set_option linter.unusedVariables false
open Go.Am
set_option maxRecDepth 100000

def hexD (c : UInt8) : Int := if 48 ≤ c.toNat ∧ c.toNat ≤ 57 then c.toNat - 48 else if 97 ≤ c.toNat ∧ c.toNat ≤ 102 then c.toNat - 87 else -1

def escF : List UInt8 → Int × Int
  | [] => (0, 0)
  | c :: r => if c.toNat = 34 ∨ c.toNat = 92 then (c.toNat, 1) else if c.toNat = 110 then (10, 1) else if c.toNat = 120 then
      match r with
      | a :: b :: _ => if 0 ≤ hexD a ∧ 0 ≤ hexD b then (hexD a * 16 + hexD b, 3) else (0, 0)
      | _ => (0, 0)
    else (0, 0)

theorem shlor_all : ((List.range 16).all fun x => (List.range 16).all fun y => match binX Try.prog .none .shl 3 (.lit (.int .i64 x)) (.lit (.int .u64 4)) with
    | some v => match binX Try.prog .none .or 3 v (.lit (.int .i64 y)) with
      | some (.lit (.int .i64 z)) => z == 16 * x + y
      | _ => false
    | _ => false) = true := by kernel_rfl

theorem shlor (x y : Int) (h0 : 0 ≤ x) (h1 : x < 16) (h2 : 0 ≤ y) (h3 : y < 16) (k : AV → Res) :
    (opt (binX Try.prog .none .shl 3 (.lit (.int .i64 x)) (.lit (.int .u64 4))) fun v => opt (binX Try.prog .none .or 3 v (.lit (.int .i64 y))) k) = k (.lit (.int .i64 (x * 16 + y))) := by
  obtain ⟨a, rfl⟩ := Int.eq_ofNat_of_zero_le h0
  obtain ⟨b, rfl⟩ := Int.eq_ofNat_of_zero_le h2
  have := List.all_eq_true.1 shlor_all a (List.mem_range.2 (by omega))
  have := List.all_eq_true.1 this b (List.mem_range.2 (by omega))
  split at this
  · rename_i v hv
    rw [hv]
    simp only [opt_s]
    split at this
    · rename_i z hz
      rw [hz]
      have := eq_of_beq this
      rw [this]
      simp only [opt_s]
      congr 3
      omega
    · cases this
  · cases this

theorem hexD_lt (c : UInt8) : hexD c < 16 ∧ -1 ≤ hexD c := by unfold hexD; split <;> (try split) <;> omega

theorem esc_ok (call : CallF) (hc : ∀ (c : UInt8) h, call 21 [.lit (.string ⟨⟨[48, 49, 50, 51, 52, 53, 54, 55, 56, 57, 97, 98, 99, 100, 101, 102]⟩⟩), .lit (.int .u8 c.toNat)] h = some (.lit (.int .i64 (hexD c)), h)) (l : List UInt8) (h : Heap) :
    F20 call (.lit (.string ⟨⟨l⟩⟩)) h = some (.tup [.lit (.int .u8 (escF l).1), .lit (.int .i64 (escF l).2)], h) := by
  have hb := hexD_lt
  cases l with
  | nil => simp [F20, S20_12, escF]
  | cons c r =>
    by_cases h1 : c.toNat = 34
    · simp [F20, S20_12, S20_11, S20_10, S20_9, ix_str, escF, h1]
    by_cases h2 : c.toNat = 92
    · simp [F20, S20_12, S20_11, S20_10, S20_9, ix_str, escF, h2]
    by_cases h3 : c.toNat = 110
    · simp [F20, S20_12, S20_11, S20_10, S20_9, S20_8, S20_7, ix_str, escF, h3]
    by_cases h4 : c.toNat = 120
    · match r with
      | [] => simp [F20, S20_12, S20_11, S20_10, S20_9, S20_8, S20_7, S20_6, S20_5, S20_4, S20_3, ix_str, escF, h4]
      | [a] => simp [F20, S20_12, S20_11, S20_10, S20_9, S20_8, S20_7, S20_6, S20_5, S20_4, S20_3, ix_str, escF, h4]
      | a :: b :: r' =>
        have hl : (2 : Int) < r'.length + 1 + 1 + 1 := by omega
        simp [F20, S20_12, S20_11, S20_10, S20_9, S20_8, S20_7, S20_6, S20_5, S20_4, S20_3, S20_2, S20_1, S20_0, ix_str, hc, escF, h4, hl]
        by_cases ha : 0 ≤ hexD a
        · by_cases hb' : 0 ≤ hexD b
          · simp only [ha, hb', if_true, and_self]
            rw [shlor _ _ ha (hb a).1 hb' (hb b).1]
            have := hb a; have := hb b
            simp [wrap8 (n := hexD a * 16 + hexD b) (by omega) (by omega)]
          · simp [ha, hb']
        · simp [ha]
    · simp [F20, S20_12, S20_11, S20_10, S20_9, S20_8, S20_7, S20_6, S20_5, ix_str, escF, ceq, h1, h2, h3, h4]
end Go.Proofs.Ytcajleckiegffaa
