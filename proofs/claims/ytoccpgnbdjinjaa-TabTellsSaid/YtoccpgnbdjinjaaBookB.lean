/- The book's functions for a kind of which it keeps no list: they change nothing. -/
import Derived.Test.YtoccpgnbdjinjaaBookA
import Derived.Test.YtoccpgnbdjinjaaLeaf1
import Derived.Deep.DrawnRows
import Derived.WalkSpells
set_option linter.unusedVariables false
set_option linter.unusedSimpArgs false
namespace Go.Proofs.Ytoccpgnbdjinjaa
open Go.RowKit Go.Proofs.YtoccpgnbdjinjaaW.PrintWords Go.Proofs.YtoccpgnbdjinjaaW.PrintLast Go.Proofs.YtoccpgnbdjinjaaW.PrintMore
attribute [local go_sem ↓] Go.wp_at_zero Go.wp_at_succ
namespace Book
set_option maxHeartbeats 400000 in
set_option maxRecDepth 100000 in
theorem stillInts_none (w : World) (B : Nat) (hc : w.cell? ⟨B, 0, none⟩ = some (.slice none 0 0)) : Calls Try.prog 20 #[.pointer (some ⟨B, 0, none⟩)] w fun e w' => e = .returned (.bool true) ∧ w' = w := by
  go_enter Try.func20, Try.ntmps20
  go_wp2
  go_loopw [3] (fun v3 w' => v3 = .int .i64 0 ∧ w' = w) (fun _ _ => 0)
  case atStart => exact ⟨rfl, rfl⟩
  case round =>
    obtain ⟨rfl, rfl⟩ := hrel
    go_wp2
    first | (go_ret; exact ⟨rfl, rfl⟩) | (go_ret2; exact ⟨rfl, rfl⟩)
set_option maxHeartbeats 400000 in
set_option maxRecDepth 100000 in
theorem putInts_none (w : World) (B : Nat) (hc : w.cell? ⟨B, 0, none⟩ = some (.slice none 0 0)) : Calls Try.prog 25 #[.pointer (some ⟨B, 0, none⟩)] w fun e w' => e = .returned (.tuple #[]) ∧ w' = w := by
  go_enter Try.func25, Try.ntmps25
  go_wp2
  go_loopw [2] (fun v3 w' => v3 = .int .i64 0 ∧ w' = w) (fun _ _ => 0)
  case atStart => exact ⟨rfl, rfl⟩
  case round =>
    obtain ⟨rfl, rfl⟩ := hrel
    go_wp2
    exact bodyPost_end (v := .tuple #[]) (by simp [results, Try.results25, go_sem]) rfl ⟨rfl, rfl⟩
set_option maxHeartbeats 400000 in
set_option maxRecDepth 100000 in
theorem growInts_none (w : World) (B : Nat) (hc : w.cell? ⟨B, 0, none⟩ = some (.slice none 0 0)) : Calls Try.prog 30 #[.pointer (some ⟨B, 0, none⟩)] w fun e w' => e = .returned (.slice none 0 0) ∧ w' = w := by
  go_enter Try.func30, Try.ntmps30
  go_wp2
  go_loopw [3, 4] (fun v3 v4 w' => v3 = .slice none 0 0 ∧ v4 = .int .i64 0 ∧ w' = w) (fun _ _ _ => 0)
  case atStart => exact ⟨rfl, rfl, rfl⟩
  case round =>
    obtain ⟨rfl, rfl, rfl⟩ := hrel
    go_wp2
    first | (go_ret; exact ⟨rfl, rfl⟩) | (go_ret2; exact ⟨rfl, rfl⟩)
set_option maxHeartbeats 400000 in
set_option maxRecDepth 100000 in
theorem markedInts_none (w : World) : Calls Try.prog 35 #[.slice none 0 0] w fun e w' => e = .returned (.bool true) ∧ w' = w := by
  go_enter Try.func35, Try.ntmps35
  go_wp2
  go_loopw [3] (fun v3 w' => v3 = .int .i64 0 ∧ w' = w) (fun _ _ => 0)
  case atStart => exact ⟨rfl, rfl⟩
  case round =>
    obtain ⟨rfl, rfl⟩ := hrel
    go_wp2
    first | (go_ret; exact ⟨rfl, rfl⟩) | (go_ret2; exact ⟨rfl, rfl⟩)
set_option maxHeartbeats 400000 in
set_option maxRecDepth 100000 in
theorem stillTexts_none (w : World) (B : Nat) (hc : w.cell? ⟨B, 2, none⟩ = some (.slice none 0 0)) : Calls Try.prog 21 #[.pointer (some ⟨B, 0, none⟩)] w fun e w' => e = .returned (.bool true) ∧ w' = w := by
  go_enter Try.func21, Try.ntmps21
  go_wp2
  go_loopw [3] (fun v3 w' => v3 = .int .i64 0 ∧ w' = w) (fun _ _ => 0)
  case atStart => exact ⟨rfl, rfl⟩
  case round =>
    obtain ⟨rfl, rfl⟩ := hrel
    go_wp2
    first | (go_ret; exact ⟨rfl, rfl⟩) | (go_ret2; exact ⟨rfl, rfl⟩)
set_option maxHeartbeats 400000 in
set_option maxRecDepth 100000 in
theorem putTexts_none (w : World) (B : Nat) (hc : w.cell? ⟨B, 2, none⟩ = some (.slice none 0 0)) : Calls Try.prog 26 #[.pointer (some ⟨B, 0, none⟩)] w fun e w' => e = .returned (.tuple #[]) ∧ w' = w := by
  go_enter Try.func26, Try.ntmps26
  go_wp2
  go_loopw [2] (fun v3 w' => v3 = .int .i64 0 ∧ w' = w) (fun _ _ => 0)
  case atStart => exact ⟨rfl, rfl⟩
  case round =>
    obtain ⟨rfl, rfl⟩ := hrel
    go_wp2
    exact bodyPost_end (v := .tuple #[]) (by simp [results, Try.results26, go_sem]) rfl ⟨rfl, rfl⟩
set_option maxHeartbeats 400000 in
set_option maxRecDepth 100000 in
theorem growTexts_none (w : World) (B : Nat) (hc : w.cell? ⟨B, 2, none⟩ = some (.slice none 0 0)) : Calls Try.prog 31 #[.pointer (some ⟨B, 0, none⟩)] w fun e w' => e = .returned (.slice none 0 0) ∧ w' = w := by
  go_enter Try.func31, Try.ntmps31
  go_wp2
  go_loopw [3, 4] (fun v3 v4 w' => v3 = .slice none 0 0 ∧ v4 = .int .i64 0 ∧ w' = w) (fun _ _ _ => 0)
  case atStart => exact ⟨rfl, rfl, rfl⟩
  case round =>
    obtain ⟨rfl, rfl, rfl⟩ := hrel
    go_wp2
    first | (go_ret; exact ⟨rfl, rfl⟩) | (go_ret2; exact ⟨rfl, rfl⟩)
set_option maxHeartbeats 400000 in
set_option maxRecDepth 100000 in
theorem markedTexts_none (w : World) : Calls Try.prog 36 #[.slice none 0 0] w fun e w' => e = .returned (.bool true) ∧ w' = w := by
  go_enter Try.func36, Try.ntmps36
  go_wp2
  go_loopw [3] (fun v3 w' => v3 = .int .i64 0 ∧ w' = w) (fun _ _ => 0)
  case atStart => exact ⟨rfl, rfl⟩
  case round =>
    obtain ⟨rfl, rfl⟩ := hrel
    go_wp2
    first | (go_ret; exact ⟨rfl, rfl⟩) | (go_ret2; exact ⟨rfl, rfl⟩)
set_option maxHeartbeats 400000 in
set_option maxRecDepth 100000 in
theorem stillHits_none (w : World) (B : Nat) (hc : w.cell? ⟨B, 4, none⟩ = some (.slice none 0 0)) : Calls Try.prog 22 #[.pointer (some ⟨B, 0, none⟩)] w fun e w' => e = .returned (.bool true) ∧ w' = w := by
  go_enter Try.func22, Try.ntmps22
  go_wp2
  go_loopw [3] (fun v3 w' => v3 = .int .i64 0 ∧ w' = w) (fun _ _ => 0)
  case atStart => exact ⟨rfl, rfl⟩
  case round =>
    obtain ⟨rfl, rfl⟩ := hrel
    go_wp2
    first | (go_ret; exact ⟨rfl, rfl⟩) | (go_ret2; exact ⟨rfl, rfl⟩)
set_option maxHeartbeats 400000 in
set_option maxRecDepth 100000 in
theorem putHits_none (w : World) (B : Nat) (hc : w.cell? ⟨B, 4, none⟩ = some (.slice none 0 0)) : Calls Try.prog 27 #[.pointer (some ⟨B, 0, none⟩)] w fun e w' => e = .returned (.tuple #[]) ∧ w' = w := by
  go_enter Try.func27, Try.ntmps27
  go_wp2
  go_loopw [2] (fun v3 w' => v3 = .int .i64 0 ∧ w' = w) (fun _ _ => 0)
  case atStart => exact ⟨rfl, rfl⟩
  case round =>
    obtain ⟨rfl, rfl⟩ := hrel
    go_wp2
    exact bodyPost_end (v := .tuple #[]) (by simp [results, Try.results27, go_sem]) rfl ⟨rfl, rfl⟩
set_option maxHeartbeats 400000 in
set_option maxRecDepth 100000 in
theorem growHits_none (w : World) (B : Nat) (hc : w.cell? ⟨B, 4, none⟩ = some (.slice none 0 0)) : Calls Try.prog 32 #[.pointer (some ⟨B, 0, none⟩)] w fun e w' => e = .returned (.slice none 0 0) ∧ w' = w := by
  go_enter Try.func32, Try.ntmps32
  go_wp2
  go_loopw [3, 4] (fun v3 v4 w' => v3 = .slice none 0 0 ∧ v4 = .int .i64 0 ∧ w' = w) (fun _ _ _ => 0)
  case atStart => exact ⟨rfl, rfl, rfl⟩
  case round =>
    obtain ⟨rfl, rfl, rfl⟩ := hrel
    go_wp2
    first | (go_ret; exact ⟨rfl, rfl⟩) | (go_ret2; exact ⟨rfl, rfl⟩)
set_option maxHeartbeats 400000 in
set_option maxRecDepth 100000 in
theorem markedHits_none (w : World) : Calls Try.prog 37 #[.slice none 0 0] w fun e w' => e = .returned (.bool true) ∧ w' = w := by
  go_enter Try.func37, Try.ntmps37
  go_wp2
  go_loopw [3] (fun v3 w' => v3 = .int .i64 0 ∧ w' = w) (fun _ _ => 0)
  case atStart => exact ⟨rfl, rfl⟩
  case round =>
    obtain ⟨rfl, rfl⟩ := hrel
    go_wp2
    first | (go_ret; exact ⟨rfl, rfl⟩) | (go_ret2; exact ⟨rfl, rfl⟩)
set_option maxHeartbeats 400000 in
set_option maxRecDepth 100000 in
theorem stillCosts_none (w : World) (B : Nat) (hc : w.cell? ⟨B, 6, none⟩ = some (.slice none 0 0)) : Calls Try.prog 23 #[.pointer (some ⟨B, 0, none⟩)] w fun e w' => e = .returned (.bool true) ∧ w' = w := by
  go_enter Try.func23, Try.ntmps23
  go_wp2
  go_loopw [3] (fun v3 w' => v3 = .int .i64 0 ∧ w' = w) (fun _ _ => 0)
  case atStart => exact ⟨rfl, rfl⟩
  case round =>
    obtain ⟨rfl, rfl⟩ := hrel
    go_wp2
    first | (go_ret; exact ⟨rfl, rfl⟩) | (go_ret2; exact ⟨rfl, rfl⟩)
set_option maxHeartbeats 400000 in
set_option maxRecDepth 100000 in
theorem putCosts_none (w : World) (B : Nat) (hc : w.cell? ⟨B, 6, none⟩ = some (.slice none 0 0)) : Calls Try.prog 28 #[.pointer (some ⟨B, 0, none⟩)] w fun e w' => e = .returned (.tuple #[]) ∧ w' = w := by
  go_enter Try.func28, Try.ntmps28
  go_wp2
  go_loopw [2] (fun v3 w' => v3 = .int .i64 0 ∧ w' = w) (fun _ _ => 0)
  case atStart => exact ⟨rfl, rfl⟩
  case round =>
    obtain ⟨rfl, rfl⟩ := hrel
    go_wp2
    exact bodyPost_end (v := .tuple #[]) (by simp [results, Try.results28, go_sem]) rfl ⟨rfl, rfl⟩
set_option maxHeartbeats 400000 in
set_option maxRecDepth 100000 in
theorem growCosts_none (w : World) (B : Nat) (hc : w.cell? ⟨B, 6, none⟩ = some (.slice none 0 0)) : Calls Try.prog 33 #[.pointer (some ⟨B, 0, none⟩)] w fun e w' => e = .returned (.slice none 0 0) ∧ w' = w := by
  go_enter Try.func33, Try.ntmps33
  go_wp2
  go_loopw [3, 4] (fun v3 v4 w' => v3 = .slice none 0 0 ∧ v4 = .int .i64 0 ∧ w' = w) (fun _ _ _ => 0)
  case atStart => exact ⟨rfl, rfl, rfl⟩
  case round =>
    obtain ⟨rfl, rfl, rfl⟩ := hrel
    go_wp2
    first | (go_ret; exact ⟨rfl, rfl⟩) | (go_ret2; exact ⟨rfl, rfl⟩)
set_option maxHeartbeats 400000 in
set_option maxRecDepth 100000 in
theorem markedCosts_none (w : World) : Calls Try.prog 38 #[.slice none 0 0] w fun e w' => e = .returned (.bool true) ∧ w' = w := by
  go_enter Try.func38, Try.ntmps38
  go_wp2
  go_loopw [3] (fun v3 w' => v3 = .int .i64 0 ∧ w' = w) (fun _ _ => 0)
  case atStart => exact ⟨rfl, rfl⟩
  case round =>
    obtain ⟨rfl, rfl⟩ := hrel
    go_wp2
    first | (go_ret; exact ⟨rfl, rfl⟩) | (go_ret2; exact ⟨rfl, rfl⟩)
set_option maxHeartbeats 400000 in
set_option maxRecDepth 100000 in
theorem stillBytes_none (w : World) (B : Nat) (hc : w.cell? ⟨B, 8, none⟩ = some (.slice none 0 0)) : Calls Try.prog 24 #[.pointer (some ⟨B, 0, none⟩)] w fun e w' => e = .returned (.bool true) ∧ w' = w := by
  go_enter Try.func24, Try.ntmps24
  go_wp2
  go_loopw [3] (fun v3 w' => v3 = .int .i64 0 ∧ w' = w) (fun _ _ => 0)
  case atStart => exact ⟨rfl, rfl⟩
  case round =>
    obtain ⟨rfl, rfl⟩ := hrel
    go_wp2
    first | (go_ret; exact ⟨rfl, rfl⟩) | (go_ret2; exact ⟨rfl, rfl⟩)
set_option maxHeartbeats 400000 in
set_option maxRecDepth 100000 in
theorem putBytes_none (w : World) (B : Nat) (hc : w.cell? ⟨B, 8, none⟩ = some (.slice none 0 0)) : Calls Try.prog 29 #[.pointer (some ⟨B, 0, none⟩)] w fun e w' => e = .returned (.tuple #[]) ∧ w' = w := by
  go_enter Try.func29, Try.ntmps29
  go_wp2
  go_loopw [2] (fun v3 w' => v3 = .int .i64 0 ∧ w' = w) (fun _ _ => 0)
  case atStart => exact ⟨rfl, rfl⟩
  case round =>
    obtain ⟨rfl, rfl⟩ := hrel
    go_wp2
    exact bodyPost_end (v := .tuple #[]) (by simp [results, Try.results29, go_sem]) rfl ⟨rfl, rfl⟩
set_option maxHeartbeats 400000 in
set_option maxRecDepth 100000 in
theorem growBytes_none (w : World) (B : Nat) (hc : w.cell? ⟨B, 8, none⟩ = some (.slice none 0 0)) : Calls Try.prog 34 #[.pointer (some ⟨B, 0, none⟩)] w fun e w' => e = .returned (.slice none 0 0) ∧ w' = w := by
  go_enter Try.func34, Try.ntmps34
  go_wp2
  go_loopw [3, 4] (fun v3 v4 w' => v3 = .slice none 0 0 ∧ v4 = .int .i64 0 ∧ w' = w) (fun _ _ _ => 0)
  case atStart => exact ⟨rfl, rfl, rfl⟩
  case round =>
    obtain ⟨rfl, rfl, rfl⟩ := hrel
    go_wp2
    first | (go_ret; exact ⟨rfl, rfl⟩) | (go_ret2; exact ⟨rfl, rfl⟩)
set_option maxHeartbeats 400000 in
set_option maxRecDepth 100000 in
theorem markedBytes_none (w : World) : Calls Try.prog 39 #[.slice none 0 0] w fun e w' => e = .returned (.bool true) ∧ w' = w := by
  go_enter Try.func39, Try.ntmps39
  go_wp2
  go_loopw [3] (fun v3 w' => v3 = .int .i64 0 ∧ w' = w) (fun _ _ => 0)
  case atStart => exact ⟨rfl, rfl⟩
  case round =>
    obtain ⟨rfl, rfl⟩ := hrel
    go_wp2
    first | (go_ret; exact ⟨rfl, rfl⟩) | (go_ret2; exact ⟨rfl, rfl⟩)
end Book
end Go.Proofs.Ytoccpgnbdjinjaa
