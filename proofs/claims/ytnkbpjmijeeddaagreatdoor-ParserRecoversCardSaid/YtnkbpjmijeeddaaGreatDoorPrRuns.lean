/- The kernel has run Parse at all texts. No conditions. -/
import Derived.Test.YtnkbpjmijeeddaaGreatDoorPrR0
import Derived.Test.YtnkbpjmijeeddaaGreatDoorPrR1
import Derived.Test.YtnkbpjmijeeddaaGreatDoorPrR2
import Derived.Test.YtnkbpjmijeeddaaGreatDoorPrR3
import Derived.Test.YtnkbpjmijeeddaaGreatDoorPrR4
import Derived.Test.YtnkbpjmijeeddaaGreatDoorPrR5
namespace Go.Proofs.YtnkbpjmijeeddaaGreatDoor.pr
open Go Go.RowKit Go.Proofs.YtnkbpjmijeeddaaGreatDoor.Ev
theorem q2_0 (s : Nat) (h1 : 0 < s) (h2 : s < 2) : runOf 2 0 s = true := by
  obtain rfl : s = 1 := by omega
  exact (Bool.and_eq_true_iff.1 (Bool.and_eq_true_iff.1 (Bool.and_eq_true_iff.1 r0).1).1).1
theorem q2 (f s : Nat) (h1 : f < s) (h2 : s < 2) : runOf 2 f s = true := by
  obtain rfl : f = 0 := by omega
  exact q2_0 s h1 h2
theorem q3_0 (s : Nat) (h1 : 0 < s) (h2 : s < 3) : runOf 3 0 s = true := by
  obtain rfl | rfl : s = 1 ∨ s = 2 := by omega
  · exact (Bool.and_eq_true_iff.1 (Bool.and_eq_true_iff.1 (Bool.and_eq_true_iff.1 r0).1).1).2
  · exact (Bool.and_eq_true_iff.1 (Bool.and_eq_true_iff.1 r0).1).2
theorem q3_1 (s : Nat) (h1 : 1 < s) (h2 : s < 3) : runOf 3 1 s = true := by
  obtain rfl : s = 2 := by omega
  exact (Bool.and_eq_true_iff.1 r0).2
theorem q3 (f s : Nat) (h1 : f < s) (h2 : s < 3) : runOf 3 f s = true := by
  obtain rfl | rfl : f = 0 ∨ f = 1 := by omega
  · exact q3_0 s h1 h2
  · exact q3_1 s h1 h2
theorem q4_0 (s : Nat) (h1 : 0 < s) (h2 : s < 4) : runOf 4 0 s = true := by
  obtain rfl | rfl | rfl : s = 1 ∨ s = 2 ∨ s = 3 := by omega
  · exact (Bool.and_eq_true_iff.1 (Bool.and_eq_true_iff.1 (Bool.and_eq_true_iff.1 r1).1).1).1
  · exact (Bool.and_eq_true_iff.1 (Bool.and_eq_true_iff.1 (Bool.and_eq_true_iff.1 r1).1).1).2
  · exact (Bool.and_eq_true_iff.1 (Bool.and_eq_true_iff.1 r1).1).2
theorem q4_1 (s : Nat) (h1 : 1 < s) (h2 : s < 4) : runOf 4 1 s = true := by
  obtain rfl | rfl : s = 2 ∨ s = 3 := by omega
  · exact (Bool.and_eq_true_iff.1 r1).2
  · exact (Bool.and_eq_true_iff.1 (Bool.and_eq_true_iff.1 (Bool.and_eq_true_iff.1 r2).1).1).1
theorem q4_2 (s : Nat) (h1 : 2 < s) (h2 : s < 4) : runOf 4 2 s = true := by
  obtain rfl : s = 3 := by omega
  exact (Bool.and_eq_true_iff.1 (Bool.and_eq_true_iff.1 (Bool.and_eq_true_iff.1 r2).1).1).2
theorem q4 (f s : Nat) (h1 : f < s) (h2 : s < 4) : runOf 4 f s = true := by
  obtain rfl | rfl | rfl : f = 0 ∨ f = 1 ∨ f = 2 := by omega
  · exact q4_0 s h1 h2
  · exact q4_1 s h1 h2
  · exact q4_2 s h1 h2
theorem q5_0 (s : Nat) (h1 : 0 < s) (h2 : s < 5) : runOf 5 0 s = true := by
  obtain rfl | rfl | rfl | rfl : s = 1 ∨ s = 2 ∨ s = 3 ∨ s = 4 := by omega
  · exact (Bool.and_eq_true_iff.1 (Bool.and_eq_true_iff.1 r2).1).2
  · exact (Bool.and_eq_true_iff.1 r2).2
  · exact (Bool.and_eq_true_iff.1 (Bool.and_eq_true_iff.1 (Bool.and_eq_true_iff.1 r3).1).1).1
  · exact (Bool.and_eq_true_iff.1 (Bool.and_eq_true_iff.1 (Bool.and_eq_true_iff.1 r3).1).1).2
theorem q5_1 (s : Nat) (h1 : 1 < s) (h2 : s < 5) : runOf 5 1 s = true := by
  obtain rfl | rfl | rfl : s = 2 ∨ s = 3 ∨ s = 4 := by omega
  · exact (Bool.and_eq_true_iff.1 (Bool.and_eq_true_iff.1 r3).1).2
  · exact (Bool.and_eq_true_iff.1 r3).2
  · exact (Bool.and_eq_true_iff.1 (Bool.and_eq_true_iff.1 (Bool.and_eq_true_iff.1 r4).1).1).1
theorem q5_2 (s : Nat) (h1 : 2 < s) (h2 : s < 5) : runOf 5 2 s = true := by
  obtain rfl | rfl : s = 3 ∨ s = 4 := by omega
  · exact (Bool.and_eq_true_iff.1 (Bool.and_eq_true_iff.1 (Bool.and_eq_true_iff.1 r4).1).1).2
  · exact (Bool.and_eq_true_iff.1 (Bool.and_eq_true_iff.1 r4).1).2
theorem q5_3 (s : Nat) (h1 : 3 < s) (h2 : s < 5) : runOf 5 3 s = true := by
  obtain rfl : s = 4 := by omega
  exact (Bool.and_eq_true_iff.1 r4).2
theorem q5 (f s : Nat) (h1 : f < s) (h2 : s < 5) : runOf 5 f s = true := by
  obtain rfl | rfl | rfl | rfl : f = 0 ∨ f = 1 ∨ f = 2 ∨ f = 3 := by omega
  · exact q5_0 s h1 h2
  · exact q5_1 s h1 h2
  · exact q5_2 s h1 h2
  · exact q5_3 s h1 h2
theorem q6_0 (s : Nat) (h1 : 0 < s) (h2 : s < 6) : runOf 6 0 s = true := by
  obtain rfl | rfl | rfl | rfl | rfl : s = 1 ∨ s = 2 ∨ s = 3 ∨ s = 4 ∨ s = 5 := by omega
  · exact (Bool.and_eq_true_iff.1 (Bool.and_eq_true_iff.1 (Bool.and_eq_true_iff.1 r5).1).1).1
  · exact (Bool.and_eq_true_iff.1 (Bool.and_eq_true_iff.1 (Bool.and_eq_true_iff.1 r5).1).1).2
  · exact (Bool.and_eq_true_iff.1 (Bool.and_eq_true_iff.1 r5).1).2
  · exact (Bool.and_eq_true_iff.1 r5).2
  · exact (Bool.and_eq_true_iff.1 (Bool.and_eq_true_iff.1 (Bool.and_eq_true_iff.1 r6).1).1).1
theorem q6_1 (s : Nat) (h1 : 1 < s) (h2 : s < 6) : runOf 6 1 s = true := by
  obtain rfl | rfl | rfl | rfl : s = 2 ∨ s = 3 ∨ s = 4 ∨ s = 5 := by omega
  · exact (Bool.and_eq_true_iff.1 (Bool.and_eq_true_iff.1 (Bool.and_eq_true_iff.1 r6).1).1).2
  · exact (Bool.and_eq_true_iff.1 (Bool.and_eq_true_iff.1 r6).1).2
  · exact (Bool.and_eq_true_iff.1 r6).2
  · exact (Bool.and_eq_true_iff.1 (Bool.and_eq_true_iff.1 (Bool.and_eq_true_iff.1 r7).1).1).1
theorem q6_2 (s : Nat) (h1 : 2 < s) (h2 : s < 6) : runOf 6 2 s = true := by
  obtain rfl | rfl | rfl : s = 3 ∨ s = 4 ∨ s = 5 := by omega
  · exact (Bool.and_eq_true_iff.1 (Bool.and_eq_true_iff.1 (Bool.and_eq_true_iff.1 r7).1).1).2
  · exact (Bool.and_eq_true_iff.1 (Bool.and_eq_true_iff.1 r7).1).2
  · exact (Bool.and_eq_true_iff.1 r7).2
theorem q6_3 (s : Nat) (h1 : 3 < s) (h2 : s < 6) : runOf 6 3 s = true := by
  obtain rfl | rfl : s = 4 ∨ s = 5 := by omega
  · exact (Bool.and_eq_true_iff.1 (Bool.and_eq_true_iff.1 (Bool.and_eq_true_iff.1 r8).1).1).1
  · exact (Bool.and_eq_true_iff.1 (Bool.and_eq_true_iff.1 (Bool.and_eq_true_iff.1 r8).1).1).2
theorem q6_4 (s : Nat) (h1 : 4 < s) (h2 : s < 6) : runOf 6 4 s = true := by
  obtain rfl : s = 5 := by omega
  exact (Bool.and_eq_true_iff.1 (Bool.and_eq_true_iff.1 r8).1).2
theorem q6 (f s : Nat) (h1 : f < s) (h2 : s < 6) : runOf 6 f s = true := by
  obtain rfl | rfl | rfl | rfl | rfl : f = 0 ∨ f = 1 ∨ f = 2 ∨ f = 3 ∨ f = 4 := by omega
  · exact q6_0 s h1 h2
  · exact q6_1 s h1 h2
  · exact q6_2 s h1 h2
  · exact q6_3 s h1 h2
  · exact q6_4 s h1 h2
theorem q7_0 (s : Nat) (h1 : 0 < s) (h2 : s < 7) : runOf 7 0 s = true := by
  obtain rfl | rfl | rfl | rfl | rfl | rfl : s = 1 ∨ s = 2 ∨ s = 3 ∨ s = 4 ∨ s = 5 ∨ s = 6 := by omega
  · exact (Bool.and_eq_true_iff.1 r8).2
  · exact (Bool.and_eq_true_iff.1 (Bool.and_eq_true_iff.1 (Bool.and_eq_true_iff.1 r9).1).1).1
  · exact (Bool.and_eq_true_iff.1 (Bool.and_eq_true_iff.1 (Bool.and_eq_true_iff.1 r9).1).1).2
  · exact (Bool.and_eq_true_iff.1 (Bool.and_eq_true_iff.1 r9).1).2
  · exact (Bool.and_eq_true_iff.1 r9).2
  · exact (Bool.and_eq_true_iff.1 (Bool.and_eq_true_iff.1 (Bool.and_eq_true_iff.1 r10).1).1).1
theorem q7_1 (s : Nat) (h1 : 1 < s) (h2 : s < 7) : runOf 7 1 s = true := by
  obtain rfl | rfl | rfl | rfl | rfl : s = 2 ∨ s = 3 ∨ s = 4 ∨ s = 5 ∨ s = 6 := by omega
  · exact (Bool.and_eq_true_iff.1 (Bool.and_eq_true_iff.1 (Bool.and_eq_true_iff.1 r10).1).1).2
  · exact (Bool.and_eq_true_iff.1 (Bool.and_eq_true_iff.1 r10).1).2
  · exact (Bool.and_eq_true_iff.1 r10).2
  · exact (Bool.and_eq_true_iff.1 (Bool.and_eq_true_iff.1 (Bool.and_eq_true_iff.1 r11).1).1).1
  · exact (Bool.and_eq_true_iff.1 (Bool.and_eq_true_iff.1 (Bool.and_eq_true_iff.1 r11).1).1).2
theorem q7_2 (s : Nat) (h1 : 2 < s) (h2 : s < 7) : runOf 7 2 s = true := by
  obtain rfl | rfl | rfl | rfl : s = 3 ∨ s = 4 ∨ s = 5 ∨ s = 6 := by omega
  · exact (Bool.and_eq_true_iff.1 (Bool.and_eq_true_iff.1 r11).1).2
  · exact (Bool.and_eq_true_iff.1 r11).2
  · exact (Bool.and_eq_true_iff.1 (Bool.and_eq_true_iff.1 (Bool.and_eq_true_iff.1 r12).1).1).1
  · exact (Bool.and_eq_true_iff.1 (Bool.and_eq_true_iff.1 (Bool.and_eq_true_iff.1 r12).1).1).2
theorem q7_3 (s : Nat) (h1 : 3 < s) (h2 : s < 7) : runOf 7 3 s = true := by
  obtain rfl | rfl | rfl : s = 4 ∨ s = 5 ∨ s = 6 := by omega
  · exact (Bool.and_eq_true_iff.1 (Bool.and_eq_true_iff.1 r12).1).2
  · exact (Bool.and_eq_true_iff.1 r12).2
  · exact (Bool.and_eq_true_iff.1 (Bool.and_eq_true_iff.1 (Bool.and_eq_true_iff.1 r13).1).1).1
theorem q7_4 (s : Nat) (h1 : 4 < s) (h2 : s < 7) : runOf 7 4 s = true := by
  obtain rfl | rfl : s = 5 ∨ s = 6 := by omega
  · exact (Bool.and_eq_true_iff.1 (Bool.and_eq_true_iff.1 (Bool.and_eq_true_iff.1 r13).1).1).2
  · exact (Bool.and_eq_true_iff.1 (Bool.and_eq_true_iff.1 r13).1).2
theorem q7_5 (s : Nat) (h1 : 5 < s) (h2 : s < 7) : runOf 7 5 s = true := by
  obtain rfl : s = 6 := by omega
  exact (Bool.and_eq_true_iff.1 r13).2
theorem q7 (f s : Nat) (h1 : f < s) (h2 : s < 7) : runOf 7 f s = true := by
  obtain rfl | rfl | rfl | rfl | rfl | rfl : f = 0 ∨ f = 1 ∨ f = 2 ∨ f = 3 ∨ f = 4 ∨ f = 5 := by omega
  · exact q7_0 s h1 h2
  · exact q7_1 s h1 h2
  · exact q7_2 s h1 h2
  · exact q7_3 s h1 h2
  · exact q7_4 s h1 h2
  · exact q7_5 s h1 h2
theorem q8_0 (s : Nat) (h1 : 0 < s) (h2 : s < 8) : runOf 8 0 s = true := by
  obtain rfl | rfl | rfl | rfl | rfl | rfl | rfl : s = 1 ∨ s = 2 ∨ s = 3 ∨ s = 4 ∨ s = 5 ∨ s = 6 ∨ s = 7 := by omega
  · exact (Bool.and_eq_true_iff.1 (Bool.and_eq_true_iff.1 (Bool.and_eq_true_iff.1 r14).1).1).1
  · exact (Bool.and_eq_true_iff.1 (Bool.and_eq_true_iff.1 (Bool.and_eq_true_iff.1 r14).1).1).2
  · exact (Bool.and_eq_true_iff.1 (Bool.and_eq_true_iff.1 r14).1).2
  · exact (Bool.and_eq_true_iff.1 r14).2
  · exact (Bool.and_eq_true_iff.1 (Bool.and_eq_true_iff.1 (Bool.and_eq_true_iff.1 r15).1).1).1
  · exact (Bool.and_eq_true_iff.1 (Bool.and_eq_true_iff.1 (Bool.and_eq_true_iff.1 r15).1).1).2
  · exact (Bool.and_eq_true_iff.1 (Bool.and_eq_true_iff.1 r15).1).2
theorem q8_1 (s : Nat) (h1 : 1 < s) (h2 : s < 8) : runOf 8 1 s = true := by
  obtain rfl | rfl | rfl | rfl | rfl | rfl : s = 2 ∨ s = 3 ∨ s = 4 ∨ s = 5 ∨ s = 6 ∨ s = 7 := by omega
  · exact (Bool.and_eq_true_iff.1 r15).2
  · exact (Bool.and_eq_true_iff.1 (Bool.and_eq_true_iff.1 (Bool.and_eq_true_iff.1 r16).1).1).1
  · exact (Bool.and_eq_true_iff.1 (Bool.and_eq_true_iff.1 (Bool.and_eq_true_iff.1 r16).1).1).2
  · exact (Bool.and_eq_true_iff.1 (Bool.and_eq_true_iff.1 r16).1).2
  · exact (Bool.and_eq_true_iff.1 r16).2
  · exact (Bool.and_eq_true_iff.1 (Bool.and_eq_true_iff.1 (Bool.and_eq_true_iff.1 r17).1).1).1
theorem q8_2 (s : Nat) (h1 : 2 < s) (h2 : s < 8) : runOf 8 2 s = true := by
  obtain rfl | rfl | rfl | rfl | rfl : s = 3 ∨ s = 4 ∨ s = 5 ∨ s = 6 ∨ s = 7 := by omega
  · exact (Bool.and_eq_true_iff.1 (Bool.and_eq_true_iff.1 (Bool.and_eq_true_iff.1 r17).1).1).2
  · exact (Bool.and_eq_true_iff.1 (Bool.and_eq_true_iff.1 r17).1).2
  · exact (Bool.and_eq_true_iff.1 r17).2
  · exact (Bool.and_eq_true_iff.1 (Bool.and_eq_true_iff.1 (Bool.and_eq_true_iff.1 r18).1).1).1
  · exact (Bool.and_eq_true_iff.1 (Bool.and_eq_true_iff.1 (Bool.and_eq_true_iff.1 r18).1).1).2
theorem q8_3 (s : Nat) (h1 : 3 < s) (h2 : s < 8) : runOf 8 3 s = true := by
  obtain rfl | rfl | rfl | rfl : s = 4 ∨ s = 5 ∨ s = 6 ∨ s = 7 := by omega
  · exact (Bool.and_eq_true_iff.1 (Bool.and_eq_true_iff.1 r18).1).2
  · exact (Bool.and_eq_true_iff.1 r18).2
  · exact (Bool.and_eq_true_iff.1 (Bool.and_eq_true_iff.1 (Bool.and_eq_true_iff.1 r19).1).1).1
  · exact (Bool.and_eq_true_iff.1 (Bool.and_eq_true_iff.1 (Bool.and_eq_true_iff.1 r19).1).1).2
theorem q8_4 (s : Nat) (h1 : 4 < s) (h2 : s < 8) : runOf 8 4 s = true := by
  obtain rfl | rfl | rfl : s = 5 ∨ s = 6 ∨ s = 7 := by omega
  · exact (Bool.and_eq_true_iff.1 (Bool.and_eq_true_iff.1 r19).1).2
  · exact (Bool.and_eq_true_iff.1 r19).2
  · exact (Bool.and_eq_true_iff.1 (Bool.and_eq_true_iff.1 (Bool.and_eq_true_iff.1 r20).1).1).1
theorem q8_5 (s : Nat) (h1 : 5 < s) (h2 : s < 8) : runOf 8 5 s = true := by
  obtain rfl | rfl : s = 6 ∨ s = 7 := by omega
  · exact (Bool.and_eq_true_iff.1 (Bool.and_eq_true_iff.1 (Bool.and_eq_true_iff.1 r20).1).1).2
  · exact (Bool.and_eq_true_iff.1 (Bool.and_eq_true_iff.1 r20).1).2
theorem q8_6 (s : Nat) (h1 : 6 < s) (h2 : s < 8) : runOf 8 6 s = true := by
  obtain rfl : s = 7 := by omega
  exact (Bool.and_eq_true_iff.1 r20).2
theorem q8 (f s : Nat) (h1 : f < s) (h2 : s < 8) : runOf 8 f s = true := by
  obtain rfl | rfl | rfl | rfl | rfl | rfl | rfl : f = 0 ∨ f = 1 ∨ f = 2 ∨ f = 3 ∨ f = 4 ∨ f = 5 ∨ f = 6 := by omega
  · exact q8_0 s h1 h2
  · exact q8_1 s h1 h2
  · exact q8_2 s h1 h2
  · exact q8_3 s h1 h2
  · exact q8_4 s h1 h2
  · exact q8_5 s h1 h2
  · exact q8_6 s h1 h2
theorem q9_0 (s : Nat) (h1 : 0 < s) (h2 : s < 9) : runOf 9 0 s = true := by
  obtain rfl | rfl | rfl | rfl | rfl | rfl | rfl | rfl : s = 1 ∨ s = 2 ∨ s = 3 ∨ s = 4 ∨ s = 5 ∨ s = 6 ∨ s = 7 ∨ s = 8 := by omega
  · exact (Bool.and_eq_true_iff.1 (Bool.and_eq_true_iff.1 (Bool.and_eq_true_iff.1 r21).1).1).1
  · exact (Bool.and_eq_true_iff.1 (Bool.and_eq_true_iff.1 (Bool.and_eq_true_iff.1 r21).1).1).2
  · exact (Bool.and_eq_true_iff.1 (Bool.and_eq_true_iff.1 r21).1).2
  · exact (Bool.and_eq_true_iff.1 r21).2
  · exact (Bool.and_eq_true_iff.1 (Bool.and_eq_true_iff.1 (Bool.and_eq_true_iff.1 r22).1).1).1
  · exact (Bool.and_eq_true_iff.1 (Bool.and_eq_true_iff.1 (Bool.and_eq_true_iff.1 r22).1).1).2
  · exact (Bool.and_eq_true_iff.1 (Bool.and_eq_true_iff.1 r22).1).2
  · exact (Bool.and_eq_true_iff.1 r22).2
theorem q9_1 (s : Nat) (h1 : 1 < s) (h2 : s < 9) : runOf 9 1 s = true := by
  obtain rfl | rfl | rfl | rfl | rfl | rfl | rfl : s = 2 ∨ s = 3 ∨ s = 4 ∨ s = 5 ∨ s = 6 ∨ s = 7 ∨ s = 8 := by omega
  · exact (Bool.and_eq_true_iff.1 (Bool.and_eq_true_iff.1 (Bool.and_eq_true_iff.1 r23).1).1).1
  · exact (Bool.and_eq_true_iff.1 (Bool.and_eq_true_iff.1 (Bool.and_eq_true_iff.1 r23).1).1).2
  · exact (Bool.and_eq_true_iff.1 (Bool.and_eq_true_iff.1 r23).1).2
  · exact (Bool.and_eq_true_iff.1 r23).2
  · exact (Bool.and_eq_true_iff.1 (Bool.and_eq_true_iff.1 (Bool.and_eq_true_iff.1 r24).1).1).1
  · exact (Bool.and_eq_true_iff.1 (Bool.and_eq_true_iff.1 (Bool.and_eq_true_iff.1 r24).1).1).2
  · exact (Bool.and_eq_true_iff.1 (Bool.and_eq_true_iff.1 r24).1).2
theorem q9_2 (s : Nat) (h1 : 2 < s) (h2 : s < 9) : runOf 9 2 s = true := by
  obtain rfl | rfl | rfl | rfl | rfl | rfl : s = 3 ∨ s = 4 ∨ s = 5 ∨ s = 6 ∨ s = 7 ∨ s = 8 := by omega
  · exact (Bool.and_eq_true_iff.1 r24).2
  · exact (Bool.and_eq_true_iff.1 (Bool.and_eq_true_iff.1 (Bool.and_eq_true_iff.1 r25).1).1).1
  · exact (Bool.and_eq_true_iff.1 (Bool.and_eq_true_iff.1 (Bool.and_eq_true_iff.1 r25).1).1).2
  · exact (Bool.and_eq_true_iff.1 (Bool.and_eq_true_iff.1 r25).1).2
  · exact (Bool.and_eq_true_iff.1 r25).2
  · exact (Bool.and_eq_true_iff.1 (Bool.and_eq_true_iff.1 (Bool.and_eq_true_iff.1 r26).1).1).1
theorem q9_3 (s : Nat) (h1 : 3 < s) (h2 : s < 9) : runOf 9 3 s = true := by
  obtain rfl | rfl | rfl | rfl | rfl : s = 4 ∨ s = 5 ∨ s = 6 ∨ s = 7 ∨ s = 8 := by omega
  · exact (Bool.and_eq_true_iff.1 (Bool.and_eq_true_iff.1 (Bool.and_eq_true_iff.1 r26).1).1).2
  · exact (Bool.and_eq_true_iff.1 (Bool.and_eq_true_iff.1 r26).1).2
  · exact (Bool.and_eq_true_iff.1 r26).2
  · exact (Bool.and_eq_true_iff.1 (Bool.and_eq_true_iff.1 (Bool.and_eq_true_iff.1 r27).1).1).1
  · exact (Bool.and_eq_true_iff.1 (Bool.and_eq_true_iff.1 (Bool.and_eq_true_iff.1 r27).1).1).2
theorem q9_4 (s : Nat) (h1 : 4 < s) (h2 : s < 9) : runOf 9 4 s = true := by
  obtain rfl | rfl | rfl | rfl : s = 5 ∨ s = 6 ∨ s = 7 ∨ s = 8 := by omega
  · exact (Bool.and_eq_true_iff.1 (Bool.and_eq_true_iff.1 r27).1).2
  · exact (Bool.and_eq_true_iff.1 r27).2
  · exact (Bool.and_eq_true_iff.1 (Bool.and_eq_true_iff.1 (Bool.and_eq_true_iff.1 r28).1).1).1
  · exact (Bool.and_eq_true_iff.1 (Bool.and_eq_true_iff.1 (Bool.and_eq_true_iff.1 r28).1).1).2
theorem q9_5 (s : Nat) (h1 : 5 < s) (h2 : s < 9) : runOf 9 5 s = true := by
  obtain rfl | rfl | rfl : s = 6 ∨ s = 7 ∨ s = 8 := by omega
  · exact (Bool.and_eq_true_iff.1 (Bool.and_eq_true_iff.1 r28).1).2
  · exact (Bool.and_eq_true_iff.1 r28).2
  · exact (Bool.and_eq_true_iff.1 (Bool.and_eq_true_iff.1 (Bool.and_eq_true_iff.1 r29).1).1).1
theorem q9_6 (s : Nat) (h1 : 6 < s) (h2 : s < 9) : runOf 9 6 s = true := by
  obtain rfl | rfl : s = 7 ∨ s = 8 := by omega
  · exact (Bool.and_eq_true_iff.1 (Bool.and_eq_true_iff.1 (Bool.and_eq_true_iff.1 r29).1).1).2
  · exact (Bool.and_eq_true_iff.1 (Bool.and_eq_true_iff.1 r29).1).2
theorem q9_7 (s : Nat) (h1 : 7 < s) (h2 : s < 9) : runOf 9 7 s = true := by
  obtain rfl : s = 8 := by omega
  exact (Bool.and_eq_true_iff.1 r29).2
theorem q9 (f s : Nat) (h1 : f < s) (h2 : s < 9) : runOf 9 f s = true := by
  obtain rfl | rfl | rfl | rfl | rfl | rfl | rfl | rfl : f = 0 ∨ f = 1 ∨ f = 2 ∨ f = 3 ∨ f = 4 ∨ f = 5 ∨ f = 6 ∨ f = 7 := by omega
  · exact q9_0 s h1 h2
  · exact q9_1 s h1 h2
  · exact q9_2 s h1 h2
  · exact q9_3 s h1 h2
  · exact q9_4 s h1 h2
  · exact q9_5 s h1 h2
  · exact q9_6 s h1 h2
  · exact q9_7 s h1 h2
theorem all (m f s : Nat) (h0 : 2 ≤ m) (h : m ≤ 9) (h1 : f < s) (h2 : s < m) : runOf m f s = true := by
  obtain rfl | rfl | rfl | rfl | rfl | rfl | rfl | rfl : m = 2 ∨ m = 3 ∨ m = 4 ∨ m = 5 ∨ m = 6 ∨ m = 7 ∨ m = 8 ∨ m = 9 := by omega
  · exact q2 f s h1 h2
  · exact q3 f s h1 h2
  · exact q4 f s h1 h2
  · exact q5 f s h1 h2
  · exact q6 f s h1 h2
  · exact q7 f s h1 h2
  · exact q8 f s h1 h2
  · exact q9 f s h1 h2
set_option maxRecDepth 100000 in
theorem start : runAt firstL 2 3 = true := by kernel_rfl
end Go.Proofs.YtnkbpjmijeeddaaGreatDoor.pr
