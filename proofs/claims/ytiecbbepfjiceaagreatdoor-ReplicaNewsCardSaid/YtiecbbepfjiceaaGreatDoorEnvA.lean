/-
  The evaluator's environment at this program: its table of functions, its rules, the package-level variable that it reads.
-/
import Derived.Test.YtiecbbepfjiceaaGreatDoorInsA
set_option linter.unusedVariables false
set_option linter.unusedSimpArgs false
namespace Go.Proofs.YtiecbbepfjiceaaGreatDoor
open Go Go.Clean
set_option maxRecDepth 100000
def lookF (f : Nat) : List (Nat × CFunc) → Option CFunc
  | [] => none
  | (g, c) :: l => match Nat.beq g f with
    | true => some c
    | false => lookF f l
def table : List (Nat × CFunc) := [(3, c3), (4, c4), (5, c5), (6, c6), (7, c7), (8, c8), (9, c9), (10, c10), (11, c11), (12, c12), (13, c13), (14, c14), (15, c15), (16, c16), (17, c17), (18, c18), (19, c19), (20, c20), (21, c21), (22, c22), (24, c24), (25, c25), (26, c26), (27, c27), (28, c28), (29, c29), (30, c30), (31, c31), (32, c32), (33, c33), (34, c34), (35, c35), (41, c41), (42, c42), (44, c44), (45, c45), (47, c47), (48, c48), (49, c49), (50, c50), (51, c51), (52, c52), (54, c54), (55, c55), (56, c56), (57, c57), (58, c58), (59, c59), (60, c60), (61, c61), (67, c67), (68, c68), (76, c76), (77, c77), (80, c80), (82, c82), (84, c84), (86, c86), (87, c87), (88, c88), (89, c89), (90, c90), (91, c91), (92, c92), (93, c93), (96, c96), (97, c97), (99, c99), (102, c102), (103, c103), (104, c104), (105, c105), (108, c108), (119, c119), (121, c121), (123, c123), (124, c124), (127, c127), (128, c128), (129, c129), (130, c130), (131, c131), (132, c132), (134, c134), (135, c135), (136, c136), (137, c137), (139, c139), (143, c143), (144, c144), (157, c157), (158, c158), (159, c159), (160, c160), (161, c161), (162, c162), (163, c163), (164, c164), (168, c168), (169, c169), (171, c171), (173, c173), (176, c176), (179, c179), (196, c196), (197, c197), (198, c198), (202, c202), (203, c203), (204, c204), (205, c205), (206, c206), (208, c208), (209, c209), (211, c211), (216, c216), (217, c217), (255, c255), (256, c256), (257, c257), (258, c258), (259, c259), (260, c260), (262, c262), (263, c263), (264, c264), (265, c265), (266, c266), (269, c269), (288, c288), (303, c303), (304, c304), (310, c310), (311, c311), (312, c312), (343, c343), (344, c344), (345, c345), (346, c346), (347, c347), (348, c348), (351, c351), (352, c352), (353, c353), (354, c354), (356, c356), (357, c357), (358, c358), (387, c387), (388, c388), (389, c389), (390, c390), (391, c391), (392, c392), (393, c393), (396, c396), (398, c398), (401, c401), (422, c422), (423, c423), (424, c424), (425, c425), (444, c444), (445, c445)]
/-- white space among the bytes -/
def ascTab : List Nat := [9, 10, 11, 12, 13, 32]
def isIn (n : Nat) : List Nat → Bool
  | [] => false
  | x :: l => match Nat.beq n x with
    | true => true
    | false => isIn n l
noncomputable def lay : Laid := fun g o => match Nat.beq g 1 && Nat.blt o 256 with
  | true => some (.int .u8 (match isIn o ascTab with | true => 1 | false => 0))
  | false => none
noncomputable def EN : Env := ⟨lay, fun f => match Nat.beq f 57 with | true => some (pIns lay) | false => none, fun f => lookF f table, fun f => Nat.beq f 122⟩

noncomputable def pSmall : List AV → H → Option (AV × H)
  | [], h => some (.bool true, h)
  | _ :: _, _ => none
/-- with the small document behind us -/
noncomputable def EN2 : Env := ⟨lay, fun f => match Nat.beq f 57 with | true => some (pIns lay) | false => match Nat.beq f 4 with | true => some pSmall | false => none, fun f => lookF f table, fun f => Nat.beq f 122⟩
def okTrue : Option (AV × H) → Bool
  | some (.bool b, _) => b
  | _ => false
theorem okTrue_ok {r : Option (AV × H)} (h : okTrue r = true) : ∃ h', r = some (.bool true, h') := by
  unfold okTrue at h
  split at h <;> try contradiction
  subst h
  exact ⟨_, rfl⟩
end Go.Proofs.YtiecbbepfjiceaaGreatDoor
