/- name; Do: a deed of a disk -/
import Derived.Test.YtombehaaaojhdaaMa
set_option linter.unusedVariables false
namespace Go.Proofs.Ytombehaaaojhdaa
open Go.Maps Go.RowKit

/-- the six names -/
def nm (k : Nat) : Nm := [102, UInt8.ofNat (97 + k)]
def names6 : List Nm := [nm 0, nm 1, nm 2, nm 3, nm 4, nm 5]
theorem names6_len : names6.length ≤ 64 := by decide
theorem nm_mem (n : Nat) : nm (n % 6) ∈ names6 := by
  have h : n % 6 < 6 := Nat.mod_lt _ (by decide)
  have key : ∀ k, k < 6 → nm k ∈ names6 := by decide
  exact key _ h
theorem nm_max : ∀ s ∈ names6, s.length ≤ maxLen := by
  have key : ∀ s ∈ names6, s.length ≤ 2 := by decide
  intro s hs
  have := key s hs
  unfold maxLen; omega

set_option maxRecDepth 20000 in
theorem name_any (w : World) (n : Nat) (hn : n < 256) :
    Calls Try.prog 25 #[.int .u8 n] w fun e w' => e = .returned (.string ⟨(nm (n % 6)).toArray⟩) ∧ w = w' := by
  have h0 : (0 : Int) ≤ (n : Int) := by omega
  have h1 : (n : Int) ≤ 255 := by omega
  obtain ⟨X, hX, hY⟩ : ∃ X : ByteArray, (∀ W : World, (Instr.slice 9 (.string ⟨#[97, 98, 99, 100, 101, 102]⟩) (some (.int .u8 ((n : Int) % 6))) (some (.int .u8 ((n : Int) % 6 + 1))) none).run Try.prog W = .ok (.string X) W) ∧
      ((⟨#[102]⟩ : ByteArray) ++ X = ⟨(nm (n % 6)).toArray⟩ ∧ X.size = 1) := by
    have h6 : n % 6 < 6 := Nat.mod_lt _ (by decide)
    have e : ((n : Int) % 6) = ((n % 6 : Nat) : Int) := by omega
    rw [e]
    generalize n % 6 = k at h6
    rcases (show k = 0 ∨ k = 1 ∨ k = 2 ∨ k = 3 ∨ k = 4 ∨ k = 5 by omega) with rfl | rfl | rfl | rfl | rfl | rfl
    · exact ⟨⟨#[97]⟩, fun W => by kernel_rfl, by kernel_rfl, by kernel_rfl⟩
    · exact ⟨⟨#[98]⟩, fun W => by kernel_rfl, by kernel_rfl, by kernel_rfl⟩
    · exact ⟨⟨#[99]⟩, fun W => by kernel_rfl, by kernel_rfl, by kernel_rfl⟩
    · exact ⟨⟨#[100]⟩, fun W => by kernel_rfl, by kernel_rfl, by kernel_rfl⟩
    · exact ⟨⟨#[101]⟩, fun W => by kernel_rfl, by kernel_rfl, by kernel_rfl⟩
    · exact ⟨⟨#[102]⟩, fun W => by kernel_rfl, by kernel_rfl, by kernel_rfl⟩
  have HY := Lib.hid hY
  have hxs : X.size ≤ 1 := by omega
  clear hY
  go_enter Try.func25, Try.ntmps25
  go_wp2
  go_ret
  exact ⟨by rw [← HY.out.1]; rfl, rfl⟩
end Go.Proofs.Ytombehaaaojhdaa
