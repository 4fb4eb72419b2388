/- ShE: a part of its proof (contracts of the functions that it reaches, and the plain mathematics behind them). -/
import Derived.Test.YtdpkgjahcapleaaGreatShE7
set_option linter.unusedVariables false
set_option linter.unusedSimpArgs false
set_option linter.unusedVariables false
set_option linter.unusedSimpArgs false
namespace Go.Proofs.YtdpkgjahcapleaaGreat.Leaf
open Go.RowKit Go.Proofs.YtdpkgjahcapleaaGreatW.PrintWords Go.Proofs.YtdpkgjahcapleaaGreatW.PrintLast Go.Proofs.YtdpkgjahcapleaaGreatW.PrintMore
attribute [local go_sem] max2_int min2_int max_two min_two max_three min_three max_four min_four
def lexiphaneref1_Means.j0 : Nat → List ByteArray → Int → Bool → Option (ByteArray × Bool)
  | 0, _, _, _ => none
  | k + 1, x0, x1, x14 => if x14 = true then (some ((⟨#[]⟩ : ByteArray), false)) else (if x1 < 256 then (some (strOfNums (([(x1) % 256] : List Int)), true)) else (if 0 ≤ (wrap64 (x1 - 256)) then (if (wrap64 (x1 - 256)) < (x0.length : Int) then (some (rdOf ByteArray.empty x0 (wrap64 (x1 - 256)), true)) else (none)) else (none)))
def lexiphaneref1_Means.f (k : Nat) (l0 : List ByteArray) (a1 : Int) : Option (ByteArray × Bool) := if a1 < 0 then (lexiphaneref1_Means.j0 k l0 a1 true) else (lexiphaneref1_Means.j0 k l0 a1 (decide (a1 ≥ (wrap64 (256 + (l0.length : Int))))))
mutual
def lexiphaneref1_Unnumber.l0 : Nat → ByteArray → Int → Int → Int → Option (Int × Int × Int)
  | 0, _, _, _, _ => none
  | k + 1, x0, x5, x6, x7 => if x7 = (x0.size : Int) then (some (0, 0, 2)) else (if 0 ≤ x7 then (if x7 < (x0.size : Int) then (if x7 = 4 then (lexiphaneref1_Unnumber.j1 k x0 x5 x6 x7 (wrap64 (bt x0 x7)) (decide ((wrap64 (bt x0 x7)) > 15))) else (lexiphaneref1_Unnumber.j1 k x0 x5 x6 x7 (wrap64 (bt x0 x7)) false)) else (none)) else (none))
def lexiphaneref1_Unnumber.j1 : Nat → ByteArray → Int → Int → Int → Int → Bool → Option (Int × Int × Int)
  | 0, _, _, _, _, _, _ => none
  | k + 1, x0, x5, x6, x7, x8, x24 => if x24 = true then (some (0, 0, 4)) else (if x8 < 128 then (if x8 = 0 then (if x7 > 0 then (some (0, 0, 3)) else (some (wrap64 (x5 + (wrap64 ((Int.tmod x8 128) * x6))), wrap64 (x7 + 1), 0))) else (some (wrap64 (x5 + (wrap64 ((Int.tmod x8 128) * x6))), wrap64 (x7 + 1), 0))) else (lexiphaneref1_Unnumber.l0 k x0 (wrap64 (x5 + (wrap64 ((Int.tmod x8 128) * x6)))) (wrap64 (x6 * 128)) (wrap64 (x7 + 1))))
end
def lexiphaneref1_Unnumber.f (k : Nat) (a0 : ByteArray) : Option (Int × Int × Int) := lexiphaneref1_Unnumber.l0 k a0 0 1 0
def lexiphaneref1_numbers.l0 : Nat → List ByteArray → Int → ByteArray → ByteArray → Option (ByteArray × Int)
  | 0, _, _, _, _ => none
  | k + 1, x0, x1, x2, x8 => if (x8.size : Int) < x1 then ((lexiphaneref1_Unnumber.f k x2).bind fun bt262 => (if bt262.2.2 = 0 then (if 0 ≤ bt262.2.1 then (if bt262.2.1 ≤ (x2.size : Int) then ((lexiphaneref1_Means.f k x0 bt262.1).bind fun bt265 => (if bt265.2 = true then (if (wrap64 ((x8.size : Int) + (bt265.1.size : Int))) > x1 then (some ((⟨#[]⟩ : ByteArray), 12)) else (if x8.size + bt265.1.size ≤ 9223372036854775807 then (lexiphaneref1_numbers.l0 k x0 x1 (x2.extract (bt262.2.1 : Int).toNat x2.size) (x8 ++ bt265.1)) else (none))) else (some ((⟨#[]⟩ : ByteArray), 9)))) else (none)) else (none)) else (some ((⟨#[]⟩ : ByteArray), bt262.2.2)))) else (if x2.toList = ([] : List UInt8) then (some (x8, 0)) else (some ((⟨#[]⟩ : ByteArray), 13)))
def lexiphaneref1_numbers.f (k : Nat) (l0 : List ByteArray) (a1 : Int) (a2 : ByteArray) : Option (ByteArray × Int) := lexiphaneref1_numbers.l0 k l0 a1 a2 (⟨#[]⟩ : ByteArray)
mutual
def lexiphaneref1_Untab.j0 : Nat → ByteArray → Int → Bool → Option (List Int × Int × Int)
  | 0, _, _, _ => none
  | k + 1, x0, x1, x17 => if x17 = true then (some (([] : List Int), 0, 1)) else (lexiphaneref1_Untab.l0 k x0 x1 ([] : List Int) 0)
def lexiphaneref1_Untab.l0 : Nat → ByteArray → Int → List Int → Int → Option (List Int × Int × Int)
  | 0, _, _, _, _ => none
  | k + 1, x0, x1, x7, x8 => if (x7.length : Int) < x1 then (if x8 = (x0.size : Int) then (some (([] : List Int), 0, 2)) else (if 0 ≤ x8 then (if x8 < (x0.size : Int) then (if (wrap64 ((x7.length : Int) + (wrap64 ((Int.tmod (wrap64 (bt x0 x8)) 16) + 1)))) > x1 then (lexiphaneref1_Untab.j2 k x0 x1 x7 x8 (wrap64 (Int.tdiv (wrap64 (bt x0 x8)) 16)) (wrap64 ((Int.tmod (wrap64 (bt x0 x8)) 16) + 1)) true) else (if x8 > 0 then (if 0 ≤ (wrap64 (x8 - 1)) then (if (wrap64 (x8 - 1)) < (x0.size : Int) then (if (wrap64 (Int.tdiv (wrap64 (bt x0 (wrap64 (x8 - 1)))) 16)) = (wrap64 (Int.tdiv (wrap64 (bt x0 x8)) 16)) then (lexiphaneref1_Untab.j2 k x0 x1 x7 x8 (wrap64 (Int.tdiv (wrap64 (bt x0 x8)) 16)) (wrap64 ((Int.tmod (wrap64 (bt x0 x8)) 16) + 1)) (decide ((Int.tmod (wrap64 (bt x0 (wrap64 (x8 - 1)))) 16) < 15))) else (lexiphaneref1_Untab.j2 k x0 x1 x7 x8 (wrap64 (Int.tdiv (wrap64 (bt x0 x8)) 16)) (wrap64 ((Int.tmod (wrap64 (bt x0 x8)) 16) + 1)) false)) else (none)) else (none)) else (lexiphaneref1_Untab.j2 k x0 x1 x7 x8 (wrap64 (Int.tdiv (wrap64 (bt x0 x8)) 16)) (wrap64 ((Int.tmod (wrap64 (bt x0 x8)) 16) + 1)) false))) else (none)) else (none))) else (some (x7, x8, 0))
def lexiphaneref1_Untab.j2 : Nat → ByteArray → Int → List Int → Int → Int → Int → Bool → Option (List Int × Int × Int)
  | 0, _, _, _, _, _, _, _ => none
  | k + 1, x0, x1, x7, x8, x9, x10, x67 => if x67 = true then (some (([] : List Int), 0, 3)) else (lexiphaneref1_Untab.l1 k x0 x1 x7 x8 x9 x10 0)
def lexiphaneref1_Untab.l1 : Nat → ByteArray → Int → List Int → Int → Int → Int → Int → Option (List Int × Int × Int)
  | 0, _, _, _, _, _, _, _ => none
  | k + 1, x0, x1, x7, x8, x9, x10, x11 => if x11 < x10 then (if x7.length < 17592186044416 then (lexiphaneref1_Untab.l1 k x0 x1 (x7 ++ [x9]) x8 x9 x10 (wrap64 (x11 + 1))) else (none)) else (lexiphaneref1_Untab.l0 k x0 x1 x7 (wrap64 (x8 + 1)))
end
def lexiphaneref1_Untab.f (k : Nat) (a0 : ByteArray) (a1 : Int) : Option (List Int × Int × Int) := if a1 < 0 then (lexiphaneref1_Untab.j0 k a0 a1 true) else (lexiphaneref1_Untab.j0 k a0 a1 (decide (a1 > 356)))
def lexiphaneref1_Kraft.l0 : Nat → List Int → Int → Int → Option (Int)
  | 0, _, _, _ => none
  | k + 1, x0, x3, x4 => if x4 < (x0.length : Int) then (if 0 ≤ x4 then (if (rd x0 x4) ≥ 1 then (if (rd x0 x4) ≤ 15 then (if 0 ≤ (IntKind.u64.wrap (wrap64 (15 - (rd x0 x4)))) then (lexiphaneref1_Kraft.l0 k x0 (wrap64 (x3 + (shl .i64 1 (IntKind.u64.wrap (wrap64 (15 - (rd x0 x4))))))) (wrap64 (x4 + 1))) else (none)) else (lexiphaneref1_Kraft.l0 k x0 x3 (wrap64 (x4 + 1)))) else (lexiphaneref1_Kraft.l0 k x0 x3 (wrap64 (x4 + 1)))) else (none)) else (some x3)
def lexiphaneref1_Kraft.f (k : Nat) (l0 : List Int) : Option (Int) := lexiphaneref1_Kraft.l0 k l0 0 0
mutual
def lexiphaneref1_Right.l0 : Nat → List Int → Int → Int → Int → Option (Int)
  | 0, _, _, _, _ => none
  | k + 1, x0, x3, x4, x5 => if x5 < (x0.length : Int) then (if 0 ≤ x5 then (if (rd x0 x5) < 0 then (lexiphaneref1_Right.j1 k x0 x3 x4 x5 true) else (lexiphaneref1_Right.j1 k x0 x3 x4 x5 (decide ((rd x0 x5) > 15)))) else (none)) else ((lexiphaneref1_Kraft.f k x0).bind fun t273 => (if t273 = 32768 then (some 0) else (if x3 = 1 then (if x4 = 1 then (some 0) else (some 8)) else (some 8))))
def lexiphaneref1_Right.j1 : Nat → List Int → Int → Int → Int → Bool → Option (Int)
  | 0, _, _, _, _, _ => none
  | k + 1, x0, x3, x4, x5, x23 => if x23 = true then (some 1) else (if 0 ≤ x5 then (if x5 < (x0.length : Int) then (if (rd x0 x5) > 0 then (lexiphaneref1_Right.l0 k x0 (wrap64 (x3 + 1)) (rd x0 x5) (wrap64 (x5 + 1))) else (lexiphaneref1_Right.l0 k x0 x3 x4 (wrap64 (x5 + 1)))) else (none)) else (none))
end
def lexiphaneref1_Right.f (k : Nat) (l0 : List Int) : Option (Int) := lexiphaneref1_Right.l0 k l0 0 0 0
end Go.Proofs.YtdpkgjahcapleaaGreat.Leaf
set_option linter.unusedVariables false
set_option linter.unusedSimpArgs false
namespace Go.Proofs.YtdpkgjahcapleaaGreat.Leaf
open Go.RowKit Go.Proofs.YtdpkgjahcapleaaGreatW.PrintWords Go.Proofs.YtdpkgjahcapleaaGreatW.PrintLast Go.Proofs.YtdpkgjahcapleaaGreatW.PrintMore
attribute [local go_sem] max2_int min2_int max_two min_two max_three min_three max_four min_four
mutual
def lexiphaneref1_Codes.l0 : Nat → List Int → List Int → Int → Int → Option (List Int × Int)
  | 0, _, _, _, _ => none
  | k + 1, x0, x5, x6, x7 => if x7 ≤ 15 then (lexiphaneref1_Codes.l1 k x0 x5 (wrap64 (x6 * 2)) x7 0) else (some (x5, 0))
def lexiphaneref1_Codes.l1 : Nat → List Int → List Int → Int → Int → Int → Option (List Int × Int)
  | 0, _, _, _, _, _ => none
  | k + 1, x0, x5, x6, x7, x8 => if x8 < (x0.length : Int) then (if 0 ≤ x8 then (if (rd x0 x8) = x7 then (if x8 < (x5.length : Int) then (lexiphaneref1_Codes.l1 k x0 (x5.set (x8 : Int).toNat x6) (wrap64 (x6 + 1)) x7 (wrap64 (x8 + 1))) else (none)) else (lexiphaneref1_Codes.l1 k x0 x5 x6 x7 (wrap64 (x8 + 1)))) else (none)) else (lexiphaneref1_Codes.l0 k x0 x5 x6 (wrap64 (x7 + 1)))
end
def lexiphaneref1_Codes.f (k : Nat) (l0 : List Int) : Option (List Int × Int) := (lexiphaneref1_Right.f k l0).bind fun t278 => (if t278 = 0 then (if 0 ≤ (l0.length : Int) then (if ((l0.length : Int) : Int).toNat ≤ 35184372088832 then (lexiphaneref1_Codes.l0 k l0 (List.replicate ((l0.length : Int) : Int).toNat 0) 0 1) else (none)) else (none)) else (some (([] : List Int), t278)))
mutual
def lexiphaneref1_bitsOf.l0 : Nat → ByteArray → List Int → Int → Option (List Int)
  | 0, _, _, _ => none
  | k + 1, x0, x3, x4 => if x4 < (x0.size : Int) then (lexiphaneref1_bitsOf.l1 k x0 x3 x4 7) else (some x3)
def lexiphaneref1_bitsOf.l1 : Nat → ByteArray → List Int → Int → Int → Option (List Int)
  | 0, _, _, _, _ => none
  | k + 1, x0, x3, x4, x5 => if x5 ≥ 0 then (if 0 ≤ x4 then (if x4 < (x0.size : Int) then (if 0 ≤ (IntKind.u64.wrap (x5)) then (if x3.length < 17592186044416 then (lexiphaneref1_bitsOf.l1 k x0 (x3 ++ [Go.bits .and .i64 (shr .i64 (wrap64 (bt x0 x4)) (IntKind.u64.wrap (x5))) 1]) x4 (wrap64 (x5 - 1))) else (none)) else (none)) else (none)) else (none)) else (lexiphaneref1_bitsOf.l0 k x0 x3 (wrap64 (x4 + 1)))
end
def lexiphaneref1_bitsOf.f (k : Nat) (a0 : ByteArray) : Option (List Int) := lexiphaneref1_bitsOf.l0 k a0 ([] : List Int) 0
mutual
def lexiphaneref1_Next.l0 : Nat → List Int → List Int → List Int → Int → Int → Int → Option (Int × Int × Int)
  | 0, _, _, _, _, _, _ => none
  | k + 1, x0, x1, x2, x3, x11, x12 => if x12 ≤ 15 then (if (wrap64 (x3 + x12)) > (x2.length : Int) then (some (0, 0, 2)) else (if 0 ≤ (wrap64 ((wrap64 (x3 + x12)) - 1)) then (if (wrap64 ((wrap64 (x3 + x12)) - 1)) < (x2.length : Int) then (lexiphaneref1_Next.l1 k x0 x1 x2 x3 (wrap64 ((wrap64 (x11 * 2)) + (rd x2 (wrap64 ((wrap64 (x3 + x12)) - 1))))) x12 false 0) else (none)) else (none))) else (some (0, 0, 8))
def lexiphaneref1_Next.l1 : Nat → List Int → List Int → List Int → Int → Int → Int → Bool → Int → Option (Int × Int × Int)
  | 0, _, _, _, _, _, _, _, _ => none
  | k + 1, x0, x1, x2, x3, x11, x12, x13, x14 => if x14 < (x0.length : Int) then (if 0 ≤ x14 then (if (rd x0 x14) = x12 then (if x14 < (x1.length : Int) then (if (rd x1 x14) = x11 then (some (x14, x12, 0)) else (if x13 = true then (lexiphaneref1_Next.l1 k x0 x1 x2 x3 x11 x12 true (wrap64 (x14 + 1))) else (lexiphaneref1_Next.l1 k x0 x1 x2 x3 x11 x12 (decide ((rd x0 x14) > x12)) (wrap64 (x14 + 1))))) else (none)) else (if x13 = true then (lexiphaneref1_Next.l1 k x0 x1 x2 x3 x11 x12 true (wrap64 (x14 + 1))) else (lexiphaneref1_Next.l1 k x0 x1 x2 x3 x11 x12 (decide ((rd x0 x14) > x12)) (wrap64 (x14 + 1))))) else (none)) else (if x13 = true then (lexiphaneref1_Next.l0 k x0 x1 x2 x3 x11 (wrap64 (x12 + 1))) else (some (0, 0, 8)))
end
def lexiphaneref1_Next.f (k : Nat) (l0 : List Int) (l1 : List Int) (l2 : List Int) (a3 : Int) : Option (Int × Int × Int) := lexiphaneref1_Next.l0 k l0 l1 l2 a3 0 1
mutual
def lexiphaneref1_Get.j0 : Nat → List ByteArray → Int → Int → Int → ByteArray → Bool → Option (ByteArray × Int)
  | 0, _, _, _, _, _, _ => none
  | k + 1, x0, x1, x2, x3, x4, x45 => if x45 = true then (some ((⟨#[]⟩ : ByteArray), 1)) else (if x2 = 1 then (if (x4.size : Int) = x3 then (some (x4, 0)) else (some ((⟨#[]⟩ : ByteArray), 12))) else (if x1 = 0 then ((lexiphaneref1_numbers.f k x0 x3 x4).bind fun bt292 => (some (bt292.1, bt292.2))) else ((lexiphaneref1_Untab.f k x4 (wrap64 (256 + (x0.length : Int)))).bind fun bt294 => (if bt294.2.2 = 0 then ((lexiphaneref1_Codes.f k bt294.1).bind fun bt299 => (if bt299.2 = 0 then (if 0 ≤ bt294.2.1 then (if bt294.2.1 ≤ (x4.size : Int) then ((lexiphaneref1_bitsOf.f k (x4.extract (bt294.2.1 : Int).toNat x4.size)).bind fun t303 => (lexiphaneref1_Get.l0 k x0 x3 bt294.1 bt299.1 t303 (⟨#[]⟩ : ByteArray) 0)) else (none)) else (none)) else (some ((⟨#[]⟩ : ByteArray), bt299.2)))) else (some ((⟨#[]⟩ : ByteArray), bt294.2.2))))))
def lexiphaneref1_Get.l0 : Nat → List ByteArray → Int → List Int → List Int → List Int → ByteArray → Int → Option (ByteArray × Int)
  | 0, _, _, _, _, _, _, _ => none
  | k + 1, x0, x3, x12, x15, x16, x17, x18 => if (x17.size : Int) < x3 then ((lexiphaneref1_Next.f k x12 x15 x16 x18).bind fun bt306 => (if bt306.2.2 = 0 then ((lexiphaneref1_Means.f k x0 bt306.1).bind fun bt309 => (if (wrap64 ((x17.size : Int) + (bt309.1.size : Int))) > x3 then (some ((⟨#[]⟩ : ByteArray), 12)) else (if x17.size + bt309.1.size ≤ 9223372036854775807 then (lexiphaneref1_Get.l0 k x0 x3 x12 x15 x16 (x17 ++ bt309.1) (wrap64 (x18 + bt306.2.1))) else (none)))) else (some ((⟨#[]⟩ : ByteArray), bt306.2.2)))) else (if (wrap64 ((x16.length : Int) - x18)) ≥ 8 then (some ((⟨#[]⟩ : ByteArray), 13)) else (lexiphaneref1_Get.l1 k x16 x17 x18))
def lexiphaneref1_Get.l1 : Nat → List Int → ByteArray → Int → Option (ByteArray × Int)
  | 0, _, _, _ => none
  | k + 1, x16, x17, x18 => if x18 < (x16.length : Int) then (if 0 ≤ x18 then (if (rd x16 x18) = 0 then (lexiphaneref1_Get.l1 k x16 x17 (wrap64 (x18 + 1))) else (some ((⟨#[]⟩ : ByteArray), 13))) else (none)) else (some (x17, 0))
end
def lexiphaneref1_Get.f (k : Nat) (l0 : List ByteArray) (a1 : Int) (a2 : Int) (a3 : Int) (a4 : ByteArray) : Option (ByteArray × Int) := if a1 < 0 then (lexiphaneref1_Get.j0 k l0 a1 a2 a3 a4 true) else (if a1 > 1 then (lexiphaneref1_Get.j0 k l0 a1 a2 a3 a4 true) else (if a2 = 1 then (if a3 < 1 then (lexiphaneref1_Get.j0 k l0 a1 a2 a3 a4 true) else (lexiphaneref1_Get.j0 k l0 a1 a2 a3 a4 (decide (a3 > 1024)))) else (if a2 = 2 then (if a3 < 1 then (lexiphaneref1_Get.j0 k l0 a1 a2 a3 a4 true) else (lexiphaneref1_Get.j0 k l0 a1 a2 a3 a4 (decide (a3 > 1024)))) else (lexiphaneref1_Get.j0 k l0 a1 a2 a3 a4 true))))
end Go.Proofs.YtdpkgjahcapleaaGreat.Leaf
