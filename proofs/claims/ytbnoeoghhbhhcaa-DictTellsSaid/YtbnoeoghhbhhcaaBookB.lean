/- The book's functions for a kind of which it keeps no list: they change nothing. -/
import Derived.Test.YtbnoeoghhbhhcaaBookA
import Derived.Test.YtbnoeoghhbhhcaaLeaf1
import Derived.Deep.DrawnRows
import Derived.WalkSpells
set_option linter.unusedVariables false
set_option linter.unusedSimpArgs false
namespace Go.Proofs.Ytbnoeoghhbhhcaa
open Go.RowKit Go.Proofs.YtbnoeoghhbhhcaaW.PrintWords Go.Proofs.YtbnoeoghhbhhcaaW.PrintLast Go.Proofs.YtbnoeoghhbhhcaaW.PrintMore
attribute [local go_sem ↓] Go.wp_at_zero Go.wp_at_succ
namespace Book
set_option maxHeartbeats 400000 in
set_option maxRecDepth 100000 in
theorem stillInts_none (w : World) (B : Nat) (hc : w.cell? ⟨B, 0, none⟩ = some (.slice none 0 0)) : Calls Try.prog 50 #[.pointer (some ⟨B, 0, none⟩)] w fun e w' => e = .returned (.bool true) ∧ w' = w := by
  go_enter Try.func50, Try.ntmps50
  go_wp2
  go_loopw [3] (fun v3 w' => v3 = .int .i64 0 ∧ w' = w) (fun _ _ => 0)
  case atStart => exact ⟨rfl, rfl⟩
  case round =>
    obtain ⟨rfl, rfl⟩ := hrel
    go_wp2
    first | (go_ret; exact ⟨rfl, rfl⟩) | (go_ret2; exact ⟨rfl, rfl⟩)
set_option maxHeartbeats 400000 in
set_option maxRecDepth 100000 in
theorem putInts_none (w : World) (B : Nat) (hc : w.cell? ⟨B, 0, none⟩ = some (.slice none 0 0)) : Calls Try.prog 55 #[.pointer (some ⟨B, 0, none⟩)] w fun e w' => e = .returned (.tuple #[]) ∧ w' = w := by
  go_enter Try.func55, Try.ntmps55
  go_wp2
  go_loopw [2] (fun v3 w' => v3 = .int .i64 0 ∧ w' = w) (fun _ _ => 0)
  case atStart => exact ⟨rfl, rfl⟩
  case round =>
    obtain ⟨rfl, rfl⟩ := hrel
    go_wp2
    exact bodyPost_end (v := .tuple #[]) (by simp [results, Try.results55, go_sem]) rfl ⟨rfl, rfl⟩
set_option maxHeartbeats 400000 in
set_option maxRecDepth 100000 in
theorem growInts_none (w : World) (B : Nat) (hc : w.cell? ⟨B, 0, none⟩ = some (.slice none 0 0)) : Calls Try.prog 60 #[.pointer (some ⟨B, 0, none⟩)] w fun e w' => e = .returned (.slice none 0 0) ∧ w' = w := by
  go_enter Try.func60, Try.ntmps60
  go_wp2
  go_loopw [3, 4] (fun v3 v4 w' => v3 = .slice none 0 0 ∧ v4 = .int .i64 0 ∧ w' = w) (fun _ _ _ => 0)
  case atStart => exact ⟨rfl, rfl, rfl⟩
  case round =>
    obtain ⟨rfl, rfl, rfl⟩ := hrel
    go_wp2
    first | (go_ret; exact ⟨rfl, rfl⟩) | (go_ret2; exact ⟨rfl, rfl⟩)
set_option maxHeartbeats 400000 in
set_option maxRecDepth 100000 in
theorem markedInts_none (w : World) : Calls Try.prog 65 #[.slice none 0 0] w fun e w' => e = .returned (.bool true) ∧ w' = w := by
  go_enter Try.func65, Try.ntmps65
  go_wp2
  go_loopw [3] (fun v3 w' => v3 = .int .i64 0 ∧ w' = w) (fun _ _ => 0)
  case atStart => exact ⟨rfl, rfl⟩
  case round =>
    obtain ⟨rfl, rfl⟩ := hrel
    go_wp2
    first | (go_ret; exact ⟨rfl, rfl⟩) | (go_ret2; exact ⟨rfl, rfl⟩)
set_option maxHeartbeats 400000 in
set_option maxRecDepth 100000 in
theorem stillTexts_none (w : World) (B : Nat) (hc : w.cell? ⟨B, 2, none⟩ = some (.slice none 0 0)) : Calls Try.prog 51 #[.pointer (some ⟨B, 0, none⟩)] w fun e w' => e = .returned (.bool true) ∧ w' = w := by
  go_enter Try.func51, Try.ntmps51
  go_wp2
  go_loopw [3] (fun v3 w' => v3 = .int .i64 0 ∧ w' = w) (fun _ _ => 0)
  case atStart => exact ⟨rfl, rfl⟩
  case round =>
    obtain ⟨rfl, rfl⟩ := hrel
    go_wp2
    first | (go_ret; exact ⟨rfl, rfl⟩) | (go_ret2; exact ⟨rfl, rfl⟩)
set_option maxHeartbeats 400000 in
set_option maxRecDepth 100000 in
theorem putTexts_none (w : World) (B : Nat) (hc : w.cell? ⟨B, 2, none⟩ = some (.slice none 0 0)) : Calls Try.prog 56 #[.pointer (some ⟨B, 0, none⟩)] w fun e w' => e = .returned (.tuple #[]) ∧ w' = w := by
  go_enter Try.func56, Try.ntmps56
  go_wp2
  go_loopw [2] (fun v3 w' => v3 = .int .i64 0 ∧ w' = w) (fun _ _ => 0)
  case atStart => exact ⟨rfl, rfl⟩
  case round =>
    obtain ⟨rfl, rfl⟩ := hrel
    go_wp2
    exact bodyPost_end (v := .tuple #[]) (by simp [results, Try.results56, go_sem]) rfl ⟨rfl, rfl⟩
set_option maxHeartbeats 400000 in
set_option maxRecDepth 100000 in
theorem growTexts_none (w : World) (B : Nat) (hc : w.cell? ⟨B, 2, none⟩ = some (.slice none 0 0)) : Calls Try.prog 61 #[.pointer (some ⟨B, 0, none⟩)] w fun e w' => e = .returned (.slice none 0 0) ∧ w' = w := by
  go_enter Try.func61, Try.ntmps61
  go_wp2
  go_loopw [3, 4] (fun v3 v4 w' => v3 = .slice none 0 0 ∧ v4 = .int .i64 0 ∧ w' = w) (fun _ _ _ => 0)
  case atStart => exact ⟨rfl, rfl, rfl⟩
  case round =>
    obtain ⟨rfl, rfl, rfl⟩ := hrel
    go_wp2
    first | (go_ret; exact ⟨rfl, rfl⟩) | (go_ret2; exact ⟨rfl, rfl⟩)
set_option maxHeartbeats 400000 in
set_option maxRecDepth 100000 in
theorem markedTexts_none (w : World) : Calls Try.prog 66 #[.slice none 0 0] w fun e w' => e = .returned (.bool true) ∧ w' = w := by
  go_enter Try.func66, Try.ntmps66
  go_wp2
  go_loopw [3] (fun v3 w' => v3 = .int .i64 0 ∧ w' = w) (fun _ _ => 0)
  case atStart => exact ⟨rfl, rfl⟩
  case round =>
    obtain ⟨rfl, rfl⟩ := hrel
    go_wp2
    first | (go_ret; exact ⟨rfl, rfl⟩) | (go_ret2; exact ⟨rfl, rfl⟩)
set_option maxHeartbeats 400000 in
set_option maxRecDepth 100000 in
theorem stillHits_none (w : World) (B : Nat) (hc : w.cell? ⟨B, 4, none⟩ = some (.slice none 0 0)) : Calls Try.prog 52 #[.pointer (some ⟨B, 0, none⟩)] w fun e w' => e = .returned (.bool true) ∧ w' = w := by
  go_enter Try.func52, Try.ntmps52
  go_wp2
  go_loopw [3] (fun v3 w' => v3 = .int .i64 0 ∧ w' = w) (fun _ _ => 0)
  case atStart => exact ⟨rfl, rfl⟩
  case round =>
    obtain ⟨rfl, rfl⟩ := hrel
    go_wp2
    first | (go_ret; exact ⟨rfl, rfl⟩) | (go_ret2; exact ⟨rfl, rfl⟩)
set_option maxHeartbeats 400000 in
set_option maxRecDepth 100000 in
theorem putHits_none (w : World) (B : Nat) (hc : w.cell? ⟨B, 4, none⟩ = some (.slice none 0 0)) : Calls Try.prog 57 #[.pointer (some ⟨B, 0, none⟩)] w fun e w' => e = .returned (.tuple #[]) ∧ w' = w := by
  go_enter Try.func57, Try.ntmps57
  go_wp2
  go_loopw [2] (fun v3 w' => v3 = .int .i64 0 ∧ w' = w) (fun _ _ => 0)
  case atStart => exact ⟨rfl, rfl⟩
  case round =>
    obtain ⟨rfl, rfl⟩ := hrel
    go_wp2
    exact bodyPost_end (v := .tuple #[]) (by simp [results, Try.results57, go_sem]) rfl ⟨rfl, rfl⟩
set_option maxHeartbeats 400000 in
set_option maxRecDepth 100000 in
theorem growHits_none (w : World) (B : Nat) (hc : w.cell? ⟨B, 4, none⟩ = some (.slice none 0 0)) : Calls Try.prog 62 #[.pointer (some ⟨B, 0, none⟩)] w fun e w' => e = .returned (.slice none 0 0) ∧ w' = w := by
  go_enter Try.func62, Try.ntmps62
  go_wp2
  go_loopw [3, 4] (fun v3 v4 w' => v3 = .slice none 0 0 ∧ v4 = .int .i64 0 ∧ w' = w) (fun _ _ _ => 0)
  case atStart => exact ⟨rfl, rfl, rfl⟩
  case round =>
    obtain ⟨rfl, rfl, rfl⟩ := hrel
    go_wp2
    first | (go_ret; exact ⟨rfl, rfl⟩) | (go_ret2; exact ⟨rfl, rfl⟩)
set_option maxHeartbeats 400000 in
set_option maxRecDepth 100000 in
theorem markedHits_none (w : World) : Calls Try.prog 67 #[.slice none 0 0] w fun e w' => e = .returned (.bool true) ∧ w' = w := by
  go_enter Try.func67, Try.ntmps67
  go_wp2
  go_loopw [3] (fun v3 w' => v3 = .int .i64 0 ∧ w' = w) (fun _ _ => 0)
  case atStart => exact ⟨rfl, rfl⟩
  case round =>
    obtain ⟨rfl, rfl⟩ := hrel
    go_wp2
    first | (go_ret; exact ⟨rfl, rfl⟩) | (go_ret2; exact ⟨rfl, rfl⟩)
set_option maxHeartbeats 400000 in
set_option maxRecDepth 100000 in
theorem stillCosts_none (w : World) (B : Nat) (hc : w.cell? ⟨B, 6, none⟩ = some (.slice none 0 0)) : Calls Try.prog 53 #[.pointer (some ⟨B, 0, none⟩)] w fun e w' => e = .returned (.bool true) ∧ w' = w := by
  go_enter Try.func53, Try.ntmps53
  go_wp2
  go_loopw [3] (fun v3 w' => v3 = .int .i64 0 ∧ w' = w) (fun _ _ => 0)
  case atStart => exact ⟨rfl, rfl⟩
  case round =>
    obtain ⟨rfl, rfl⟩ := hrel
    go_wp2
    first | (go_ret; exact ⟨rfl, rfl⟩) | (go_ret2; exact ⟨rfl, rfl⟩)
set_option maxHeartbeats 400000 in
set_option maxRecDepth 100000 in
theorem putCosts_none (w : World) (B : Nat) (hc : w.cell? ⟨B, 6, none⟩ = some (.slice none 0 0)) : Calls Try.prog 58 #[.pointer (some ⟨B, 0, none⟩)] w fun e w' => e = .returned (.tuple #[]) ∧ w' = w := by
  go_enter Try.func58, Try.ntmps58
  go_wp2
  go_loopw [2] (fun v3 w' => v3 = .int .i64 0 ∧ w' = w) (fun _ _ => 0)
  case atStart => exact ⟨rfl, rfl⟩
  case round =>
    obtain ⟨rfl, rfl⟩ := hrel
    go_wp2
    exact bodyPost_end (v := .tuple #[]) (by simp [results, Try.results58, go_sem]) rfl ⟨rfl, rfl⟩
set_option maxHeartbeats 400000 in
set_option maxRecDepth 100000 in
theorem growCosts_none (w : World) (B : Nat) (hc : w.cell? ⟨B, 6, none⟩ = some (.slice none 0 0)) : Calls Try.prog 63 #[.pointer (some ⟨B, 0, none⟩)] w fun e w' => e = .returned (.slice none 0 0) ∧ w' = w := by
  go_enter Try.func63, Try.ntmps63
  go_wp2
  go_loopw [3, 4] (fun v3 v4 w' => v3 = .slice none 0 0 ∧ v4 = .int .i64 0 ∧ w' = w) (fun _ _ _ => 0)
  case atStart => exact ⟨rfl, rfl, rfl⟩
  case round =>
    obtain ⟨rfl, rfl, rfl⟩ := hrel
    go_wp2
    first | (go_ret; exact ⟨rfl, rfl⟩) | (go_ret2; exact ⟨rfl, rfl⟩)
set_option maxHeartbeats 400000 in
set_option maxRecDepth 100000 in
theorem markedCosts_none (w : World) : Calls Try.prog 68 #[.slice none 0 0] w fun e w' => e = .returned (.bool true) ∧ w' = w := by
  go_enter Try.func68, Try.ntmps68
  go_wp2
  go_loopw [3] (fun v3 w' => v3 = .int .i64 0 ∧ w' = w) (fun _ _ => 0)
  case atStart => exact ⟨rfl, rfl⟩
  case round =>
    obtain ⟨rfl, rfl⟩ := hrel
    go_wp2
    first | (go_ret; exact ⟨rfl, rfl⟩) | (go_ret2; exact ⟨rfl, rfl⟩)
set_option maxHeartbeats 400000 in
set_option maxRecDepth 100000 in
theorem stillBytes_none (w : World) (B : Nat) (hc : w.cell? ⟨B, 8, none⟩ = some (.slice none 0 0)) : Calls Try.prog 54 #[.pointer (some ⟨B, 0, none⟩)] w fun e w' => e = .returned (.bool true) ∧ w' = w := by
  go_enter Try.func54, Try.ntmps54
  go_wp2
  go_loopw [3] (fun v3 w' => v3 = .int .i64 0 ∧ w' = w) (fun _ _ => 0)
  case atStart => exact ⟨rfl, rfl⟩
  case round =>
    obtain ⟨rfl, rfl⟩ := hrel
    go_wp2
    first | (go_ret; exact ⟨rfl, rfl⟩) | (go_ret2; exact ⟨rfl, rfl⟩)
set_option maxHeartbeats 400000 in
set_option maxRecDepth 100000 in
theorem putBytes_none (w : World) (B : Nat) (hc : w.cell? ⟨B, 8, none⟩ = some (.slice none 0 0)) : Calls Try.prog 59 #[.pointer (some ⟨B, 0, none⟩)] w fun e w' => e = .returned (.tuple #[]) ∧ w' = w := by
  go_enter Try.func59, Try.ntmps59
  go_wp2
  go_loopw [2] (fun v3 w' => v3 = .int .i64 0 ∧ w' = w) (fun _ _ => 0)
  case atStart => exact ⟨rfl, rfl⟩
  case round =>
    obtain ⟨rfl, rfl⟩ := hrel
    go_wp2
    exact bodyPost_end (v := .tuple #[]) (by simp [results, Try.results59, go_sem]) rfl ⟨rfl, rfl⟩
set_option maxHeartbeats 400000 in
set_option maxRecDepth 100000 in
theorem growBytes_none (w : World) (B : Nat) (hc : w.cell? ⟨B, 8, none⟩ = some (.slice none 0 0)) : Calls Try.prog 64 #[.pointer (some ⟨B, 0, none⟩)] w fun e w' => e = .returned (.slice none 0 0) ∧ w' = w := by
  go_enter Try.func64, Try.ntmps64
  go_wp2
  go_loopw [3, 4] (fun v3 v4 w' => v3 = .slice none 0 0 ∧ v4 = .int .i64 0 ∧ w' = w) (fun _ _ _ => 0)
  case atStart => exact ⟨rfl, rfl, rfl⟩
  case round =>
    obtain ⟨rfl, rfl, rfl⟩ := hrel
    go_wp2
    first | (go_ret; exact ⟨rfl, rfl⟩) | (go_ret2; exact ⟨rfl, rfl⟩)
set_option maxHeartbeats 400000 in
set_option maxRecDepth 100000 in
theorem markedBytes_none (w : World) : Calls Try.prog 69 #[.slice none 0 0] w fun e w' => e = .returned (.bool true) ∧ w' = w := by
  go_enter Try.func69, Try.ntmps69
  go_wp2
  go_loopw [3] (fun v3 w' => v3 = .int .i64 0 ∧ w' = w) (fun _ _ => 0)
  case atStart => exact ⟨rfl, rfl⟩
  case round =>
    obtain ⟨rfl, rfl⟩ := hrel
    go_wp2
    first | (go_ret; exact ⟨rfl, rfl⟩) | (go_ret2; exact ⟨rfl, rfl⟩)
end Book
end Go.Proofs.Ytbnoeoghhbhhcaa
