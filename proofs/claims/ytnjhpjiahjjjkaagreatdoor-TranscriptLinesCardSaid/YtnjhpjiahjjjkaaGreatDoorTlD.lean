/- The numbers of errors, written by the program and by the reference. -/
import Derived.Test.YtnjhpjiahjjjkaaGreatDoorTlBase
import Derived.Test.YtnjhpjiahjjjkaaGreatDoorTlPlay
set_option linter.unusedSimpArgs false
set_option linter.unusedVariables false
namespace Go.Proofs.YtnjhpjiahjjjkaaGreatDoor
open Go Go.Acx
set_option maxRecDepth 100000
def dig (n : Nat) : List UInt8 := if n < 10 then [UInt8.ofNat (48 + n)] else [UInt8.ofNat (48 + n / 10), UInt8.ofNat (48 + n % 10)]
theorem digTab : AllOk Tryz.prog [(13, Tryz.f13), (14, Tryz.f14), (24, Tryz.f24), (25, Tryz.f25), (26, Tryz.f26), (38, Tryz.f38), (39, Tryz.f39), (40, Tryz.f40), (41, Tryz.f41), (51, Tryz.f51), (52, Tryz.f52), (53, Tryz.f53), (54, Tryz.f54), (55, Tryz.f55), (56, Tryz.f56), (86, Tryz.f86), (87, Tryz.f87), (88, Tryz.f88), (89, Tryz.f89), (90, Tryz.f90), (91, Tryz.f91), (92, Tryz.f92), (93, Tryz.f93), (94, Tryz.f94), (130, Tryz.f130), (131, Tryz.f131), (132, Tryz.f132), (133, Tryz.f133)] :=
  ⟨⟨Tryz.func13, by kernel_rfl⟩, ⟨Tryz.func14, by kernel_rfl⟩, ⟨Tryz.func24, by kernel_rfl⟩, ⟨Tryz.func25, by kernel_rfl⟩, ⟨Tryz.func26, by kernel_rfl⟩, ⟨Tryz.func38, by kernel_rfl⟩, ⟨Tryz.func39, by kernel_rfl⟩, ⟨Tryz.func40, by kernel_rfl⟩, ⟨Tryz.func41, by kernel_rfl⟩, ⟨Tryz.func51, by kernel_rfl⟩, ⟨Tryz.func52, by kernel_rfl⟩, ⟨Tryz.func53, by kernel_rfl⟩, ⟨Tryz.func54, by kernel_rfl⟩, ⟨Tryz.func55, by kernel_rfl⟩, ⟨Tryz.func56, by kernel_rfl⟩, ⟨Tryz.func86, by kernel_rfl⟩, ⟨Tryz.func87, by kernel_rfl⟩, ⟨Tryz.func88, by kernel_rfl⟩, ⟨Tryz.func89, by kernel_rfl⟩, ⟨Tryz.func90, by kernel_rfl⟩, ⟨Tryz.func91, by kernel_rfl⟩, ⟨Tryz.func92, by kernel_rfl⟩, ⟨Tryz.func93, by kernel_rfl⟩, ⟨Tryz.func94, by kernel_rfl⟩, ⟨Tryz.func130, by kernel_rfl⟩, ⟨Tryz.func131, by kernel_rfl⟩, ⟨Tryz.func132, by kernel_rfl⟩, ⟨Tryz.func133, by kernel_rfl⟩, trivial⟩
theorem noPrim (g : FuncId) (args : List AV) (r : AV) (e : (none : Option AV) = some r) (h : Hp) (n : Nat) : ACalls Tryz.prog g args h n fun r' h' n' => r' = r ∧ h' = h ∧ n' = n := by cases e
theorem evNum (g : Nat) (e : ((List.range 29).all fun i => evCall (tyRow Tryz.prog) (Go.Acx.look [(13, Tryz.f13), (14, Tryz.f14), (24, Tryz.f24), (25, Tryz.f25), (26, Tryz.f26), (38, Tryz.f38), (39, Tryz.f39), (40, Tryz.f40), (41, Tryz.f41), (51, Tryz.f51), (52, Tryz.f52), (53, Tryz.f53), (54, Tryz.f54), (55, Tryz.f55), (56, Tryz.f56), (86, Tryz.f86), (87, Tryz.f87), (88, Tryz.f88), (89, Tryz.f89), (90, Tryz.f90), (91, Tryz.f91), (92, Tryz.f92), (93, Tryz.f93), (94, Tryz.f94), (130, Tryz.f130), (131, Tryz.f131), (132, Tryz.f132), (133, Tryz.f133)]) (fun _ _ => none) 200 60 g [.int .i64 ((i + 1 : Nat) : Int)] .leaf 0 (fun r' _ _ => pureV r' && beqV r' (.str (dig (i + 1))))) = true)
    (k : Nat) (h1 : 1 ≤ k) (h2 : k ≤ 29) : PC Tryz.prog g [.int .i64 (k : Nat)] (.str (dig k)) := by
  have := List.all_eq_true.1 e (k - 1) (by simp; omega)
  rw [show k - 1 + 1 = k from by omega] at this
  exact evCall_plain (tyRow_ok Tryz.prog) mixedOk ⟨Go.Acx.look [(13, Tryz.f13), (14, Tryz.f14), (24, Tryz.f24), (25, Tryz.f25), (26, Tryz.f26), (38, Tryz.f38), (39, Tryz.f39), (40, Tryz.f40), (41, Tryz.f41), (51, Tryz.f51), (52, Tryz.f52), (53, Tryz.f53), (54, Tryz.f54), (55, Tryz.f55), (56, Tryz.f56), (86, Tryz.f86), (87, Tryz.f87), (88, Tryz.f88), (89, Tryz.f89), (90, Tryz.f90), (91, Tryz.f91), (92, Tryz.f92), (93, Tryz.f93), (94, Tryz.f94), (130, Tryz.f130), (131, Tryz.f131), (132, Tryz.f132), (133, Tryz.f133)], look_ok digTab⟩ ⟨fun _ _ => none, fun g args r e h n => noPrim g args r e h n⟩ rfl this
theorem itoa_pc (k : Nat) (h1 : 1 ≤ k) (h2 : k ≤ 29) : PC Tryz.prog 13 [.int .i64 (k : Nat)] (.str (dig k)) := evNum _ (by kernel_rfl) k h1 h2
theorem evNum1 (g k : Nat) (e : evCall (tyRow Tryz.prog) (Go.Acx.look [(13, Tryz.f13), (14, Tryz.f14), (24, Tryz.f24), (25, Tryz.f25), (26, Tryz.f26), (38, Tryz.f38), (39, Tryz.f39), (40, Tryz.f40), (41, Tryz.f41), (51, Tryz.f51), (52, Tryz.f52), (53, Tryz.f53), (54, Tryz.f54), (55, Tryz.f55), (56, Tryz.f56), (86, Tryz.f86), (87, Tryz.f87), (88, Tryz.f88), (89, Tryz.f89), (90, Tryz.f90), (91, Tryz.f91), (92, Tryz.f92), (93, Tryz.f93), (94, Tryz.f94), (130, Tryz.f130), (131, Tryz.f131), (132, Tryz.f132), (133, Tryz.f133)]) (fun _ _ => none) 200 60 g [.int .i64 (k : Nat)] .leaf 0 (fun r' _ _ => pureV r' && beqV r' (.str (dig k))) = true) : PC Tryz.prog g [.int .i64 (k : Nat)] (.str (dig k)) :=
  evCall_plain (tyRow_ok Tryz.prog) mixedOk ⟨Go.Acx.look [(13, Tryz.f13), (14, Tryz.f14), (24, Tryz.f24), (25, Tryz.f25), (26, Tryz.f26), (38, Tryz.f38), (39, Tryz.f39), (40, Tryz.f40), (41, Tryz.f41), (51, Tryz.f51), (52, Tryz.f52), (53, Tryz.f53), (54, Tryz.f54), (55, Tryz.f55), (56, Tryz.f56), (86, Tryz.f86), (87, Tryz.f87), (88, Tryz.f88), (89, Tryz.f89), (90, Tryz.f90), (91, Tryz.f91), (92, Tryz.f92), (93, Tryz.f93), (94, Tryz.f94), (130, Tryz.f130), (131, Tryz.f131), (132, Tryz.f132), (133, Tryz.f133)], look_ok digTab⟩ ⟨fun _ _ => none, fun g args r e h n => noPrim g args r e h n⟩ rfl e
theorem num1 : PC Tryz.prog 14 [.int .i64 (1 : Nat)] (.str (dig 1)) := evNum1 _ 1 (by kernel_rfl)
theorem num2 : PC Tryz.prog 14 [.int .i64 (2 : Nat)] (.str (dig 2)) := evNum1 _ 2 (by kernel_rfl)
theorem num3 : PC Tryz.prog 14 [.int .i64 (3 : Nat)] (.str (dig 3)) := evNum1 _ 3 (by kernel_rfl)
theorem num4 : PC Tryz.prog 14 [.int .i64 (4 : Nat)] (.str (dig 4)) := evNum1 _ 4 (by kernel_rfl)
theorem num5 : PC Tryz.prog 14 [.int .i64 (5 : Nat)] (.str (dig 5)) := evNum1 _ 5 (by kernel_rfl)
theorem num6 : PC Tryz.prog 14 [.int .i64 (6 : Nat)] (.str (dig 6)) := evNum1 _ 6 (by kernel_rfl)
theorem num7 : PC Tryz.prog 14 [.int .i64 (7 : Nat)] (.str (dig 7)) := evNum1 _ 7 (by kernel_rfl)
theorem num8 : PC Tryz.prog 14 [.int .i64 (8 : Nat)] (.str (dig 8)) := evNum1 _ 8 (by kernel_rfl)
theorem num9 : PC Tryz.prog 14 [.int .i64 (9 : Nat)] (.str (dig 9)) := evNum1 _ 9 (by kernel_rfl)
theorem num10 : PC Tryz.prog 14 [.int .i64 (10 : Nat)] (.str (dig 10)) := evNum1 _ 10 (by kernel_rfl)
theorem num11 : PC Tryz.prog 14 [.int .i64 (11 : Nat)] (.str (dig 11)) := evNum1 _ 11 (by kernel_rfl)
theorem num12 : PC Tryz.prog 14 [.int .i64 (12 : Nat)] (.str (dig 12)) := evNum1 _ 12 (by kernel_rfl)
theorem num13 : PC Tryz.prog 14 [.int .i64 (13 : Nat)] (.str (dig 13)) := evNum1 _ 13 (by kernel_rfl)
theorem num14 : PC Tryz.prog 14 [.int .i64 (14 : Nat)] (.str (dig 14)) := evNum1 _ 14 (by kernel_rfl)
theorem num15 : PC Tryz.prog 14 [.int .i64 (15 : Nat)] (.str (dig 15)) := evNum1 _ 15 (by kernel_rfl)
theorem num16 : PC Tryz.prog 14 [.int .i64 (16 : Nat)] (.str (dig 16)) := evNum1 _ 16 (by kernel_rfl)
theorem num17 : PC Tryz.prog 14 [.int .i64 (17 : Nat)] (.str (dig 17)) := evNum1 _ 17 (by kernel_rfl)
theorem num18 : PC Tryz.prog 14 [.int .i64 (18 : Nat)] (.str (dig 18)) := evNum1 _ 18 (by kernel_rfl)
theorem num19 : PC Tryz.prog 14 [.int .i64 (19 : Nat)] (.str (dig 19)) := evNum1 _ 19 (by kernel_rfl)
theorem num20 : PC Tryz.prog 14 [.int .i64 (20 : Nat)] (.str (dig 20)) := evNum1 _ 20 (by kernel_rfl)
theorem num21 : PC Tryz.prog 14 [.int .i64 (21 : Nat)] (.str (dig 21)) := evNum1 _ 21 (by kernel_rfl)
theorem num22 : PC Tryz.prog 14 [.int .i64 (22 : Nat)] (.str (dig 22)) := evNum1 _ 22 (by kernel_rfl)
theorem num23 : PC Tryz.prog 14 [.int .i64 (23 : Nat)] (.str (dig 23)) := evNum1 _ 23 (by kernel_rfl)
theorem num24 : PC Tryz.prog 14 [.int .i64 (24 : Nat)] (.str (dig 24)) := evNum1 _ 24 (by kernel_rfl)
theorem num25 : PC Tryz.prog 14 [.int .i64 (25 : Nat)] (.str (dig 25)) := evNum1 _ 25 (by kernel_rfl)
theorem num26 : PC Tryz.prog 14 [.int .i64 (26 : Nat)] (.str (dig 26)) := evNum1 _ 26 (by kernel_rfl)
theorem num27 : PC Tryz.prog 14 [.int .i64 (27 : Nat)] (.str (dig 27)) := evNum1 _ 27 (by kernel_rfl)
theorem num28 : PC Tryz.prog 14 [.int .i64 (28 : Nat)] (.str (dig 28)) := evNum1 _ 28 (by kernel_rfl)
theorem num29 : PC Tryz.prog 14 [.int .i64 (29 : Nat)] (.str (dig 29)) := evNum1 _ 29 (by kernel_rfl)
theorem number_pc : ∀ (k : Nat) (_ : 1 ≤ k) (_ : k ≤ 29), PC Tryz.prog 14 [.int .i64 (k : Nat)] (.str (dig k))
  | 0, h, _ => by omega
  | 1, _, _ => num1
  | 2, _, _ => num2
  | 3, _, _ => num3
  | 4, _, _ => num4
  | 5, _, _ => num5
  | 6, _, _ => num6
  | 7, _, _ => num7
  | 8, _, _ => num8
  | 9, _, _ => num9
  | 10, _, _ => num10
  | 11, _, _ => num11
  | 12, _, _ => num12
  | 13, _, _ => num13
  | 14, _, _ => num14
  | 15, _, _ => num15
  | 16, _, _ => num16
  | 17, _, _ => num17
  | 18, _, _ => num18
  | 19, _, _ => num19
  | 20, _, _ => num20
  | 21, _, _ => num21
  | 22, _, _ => num22
  | 23, _, _ => num23
  | 24, _, _ => num24
  | 25, _, _ => num25
  | 26, _, _ => num26
  | 27, _, _ => num27
  | 28, _, _ => num28
  | 29, _, _ => num29
  | n + 30, _, h => by omega
end Go.Proofs.YtnjhpjiahjjjkaaGreatDoor
