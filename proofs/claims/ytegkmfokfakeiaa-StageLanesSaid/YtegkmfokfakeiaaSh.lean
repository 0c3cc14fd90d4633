/-
  What the functions compute, as plain functions. Printed by a program of ours (wip/gen.py).
-/
import Derived.Test.YtegkmfokfakeiaaData
import Derived.Test.YtegkmfokfakeiaaPz
namespace Go.Proofs.Ytegkmfokfakeiaa
set_option linter.unusedVariables false
set_option maxRecDepth 100000
/- crossroads/crosslaw.item -/
noncomputable def crosslaw_item (p0 : Int) (p1 : Int) : Option Item :=
  (some (⟨p0, p1, 0⟩ : Item))
/- crossroads/stage.Check -/
noncomputable def stage_Check_l1 (p0 : Memory) (s1 : Int) : Option (Int ⊕ Int) :=
  (if (decide (s1 < ((p0.Keys).length : Int))) = true then (Option.bind (idx p0.Keys s1) fun x3 => (Option.bind (if (decide (x3.N < 1)) = true then (some true) else (if (decide (s1 > 0)) = true then (Option.bind (idx p0.Keys (IntKind.i64.wrap (s1 - 1))) fun x4 => (some (decide (x4.Key ≥ x3.Key)))) else (some false))) fun c5 => (if c5 = true then (Option.map Sum.inr (some 4)) else (some (.inl (IntKind.i64.wrap (s1 + 1))))))) else (Option.map Sum.inr (if (decide (p0.Dep < 0)) = true then (some 3) else (some 0))))
noncomputable def stage_Check (p0 : Memory) : Option Int :=
  (if (decide (((p0.Keys).length : Int) > 6)) = true then (some 2) else (iter (fun ss_18 : Int => stage_Check_l1 p0 ss_18) 0))
/- slices.Clone[[]crossroads/api.Keyed,crossroads/api.Keyed] -/
def slices_Clone_Keyed (p0 : List Keyed) : Option (List Keyed) := app [] p0
/- crossroads/stage.Copy -/
noncomputable def stage_Copy (p0 : Memory) : Option Memory :=
  (Option.bind (slices_Clone_Keyed p0.Keys) fun x2 => (some (⟨p0.Sum, x2, p0.Dep⟩ : Memory)))
/- crossroads/stage.mapped$1 -/
noncomputable def stage_mapped_1 (p0 : Item) : Option Int :=
  (some (IntKind.i64.wrap (p0.Val + 1)))
/- crossroads/stage.mapped$2 -/
noncomputable def stage_mapped_2 (p0 : Item) : Option Int :=
  (some (IntKind.i64.wrap (2 * p0.Val)))
/- crossroads/stage.mapped$3 -/
noncomputable def stage_mapped_3 (p0 : Item) : Option Int :=
  (some (IntKind.i64.wrap (0 - p0.Val)))
/- crossroads/stage.mapped$4 -/
noncomputable def stage_mapped_4 (p0 : Item) : Option Int :=
  (some (IntKind.i64.wrap (p0.Val + p0.Key)))
/- crossroads/stage.mapped -/
noncomputable def stage_mapped (p0 : Int) (p1 : Item) : Option Item :=
  (Option.bind (if (p0 == 0) = true then (Option.bind (stage_mapped_1 p1) fun x1 => (some x1)) else (if (p0 == 1) = true then (Option.bind (stage_mapped_2 p1) fun x2 => (some x2)) else (if (p0 == 2) = true then (Option.bind (stage_mapped_3 p1) fun x3 => (some x3)) else (Option.bind (isAt p0 3) fun x4 => (Option.bind (stage_mapped_4 p1) fun x5 => (some x5)))))) fun c6 => (some (⟨p1.Key, c6, p1.Dep⟩ : Item)))
/- crossroads/stage.Step$1 -/
noncomputable def stage_Step_1 (p0 : Keyed) (p1 : Int) : Option Int :=
  (if (decide (p0.Key < p1)) = true then (some (-1)) else (if (decide (p0.Key > p1)) = true then (some 1) else (some 0)))
/- slices.BinarySearchFunc[[]crossroads/api.Keyed,crossroads/api.Keyed,int] -/
noncomputable def slices_BinarySearchFunc_Keyed_x37fe_l1 (p0 : List Keyed) (p1 : Int) (s1 : Int) (s2 : Int) : Option ((Int × Int) ⊕ (Int × Bool)) :=
  (if (decide (s1 < s2)) = true then (Option.bind (shr .u64 (IntKind.u64.wrap (IntKind.i64.wrap (s1 + s2))) 1) fun x4 => (Option.bind (idx p0 (IntKind.i64.wrap x4)) fun x7 => (Option.bind (stage_Step_1 x7 p1) fun x8 => (if (decide (x8 < 0)) = true then (some (.inl (IntKind.i64.wrap ((IntKind.i64.wrap x4) + 1), s2))) else (some (.inl (s1, IntKind.i64.wrap x4))))))) else (Option.map Sum.inr (Option.bind (if (decide (s1 < ((p0).length : Int))) = true then (Option.bind (idx p0 s1) fun x9 => (Option.bind (stage_Step_1 x9 p1) fun x10 => (some (x10 == 0)))) else (some false)) fun c11 => (some (s1, c11)))))
noncomputable def slices_BinarySearchFunc_Keyed_x37fe (p0 : List Keyed) (p1 : Int) : Option (Int × Bool) :=
  (iter (fun ss_5 : Int × Int => slices_BinarySearchFunc_Keyed_x37fe_l1 p0 p1 ss_5.1 ss_5.2) (0, ((p0).length : Int)))
/- slices.Insert[[]crossroads/api.Keyed,crossroads/api.Keyed] -/
noncomputable def slices_Insert_Keyed_xe708_C (p0 : Int) (p1 : List Keyed) (p2 : List Keyed) (C : Nat) : Option (List Keyed) :=
  (Option.bind (vwok ((p1).length) p0 (((p1).length : Nat) : Int)) fun x2 => (if (((p2).length : Int) == 0) = true then (none) else (if (p0 == (((p1).length : Nat) : Int)) = true then (Option.bind (app p1 p2) fun x4 => (some x4)) else (if (decide ((IntKind.i64.wrap ((((p1).length : Nat) : Int) + ((p2).length : Int))) > ((C : Nat) : Int))) = true then (Option.bind (vwok ((p1).length) 0 p0) fun x7 => (Option.bind (growz p1 ((p0).toNat) C (IntKind.i64.wrap ((IntKind.i64.wrap ((((p1).length : Nat) : Int) + ((p2).length : Int))) - p0)) (⟨0, 0⟩ : Keyed)) fun x8 => (Option.bind (vwok (x8).length p0 ((x8).length : Int)) fun x11 => (Option.bind (vwok (x8).length ((p0).toNat : Nat) (((p0).toNat : Nat) + (((((x8).length : Int)).toNat - (p0).toNat) : Nat))) fun x12 => (Option.bind (vwok ((cpy x8 ((p0).toNat) ((((x8).length : Int)).toNat - (p0).toNat) p2)).length (IntKind.i64.wrap (p0 + ((p2).length : Int))) (((cpy x8 ((p0).toNat) ((((x8).length : Int)).toNat - (p0).toNat) p2)).length : Int)) fun x17 => (Option.bind (vwok ((p1).length) p0 (((p1).length : Nat) : Int)) fun x18 => (Option.bind (vwok ((cpy x8 ((p0).toNat) ((((x8).length : Int)).toNat - (p0).toNat) p2)).length ((IntKind.i64.wrap (p0 + ((p2).length : Int))).toNat : Nat) (((IntKind.i64.wrap (p0 + ((p2).length : Int))).toNat : Nat) + ((((((cpy x8 ((p0).toNat) ((((x8).length : Int)).toNat - (p0).toNat) p2)).length : Int)).toNat - (IntKind.i64.wrap (p0 + ((p2).length : Int))).toNat) : Nat))) fun x19 => (Option.bind (vwok (p1).length ((0 + (p0).toNat) : Nat) (((0 + (p0).toNat) : Nat) + ((((((p1).length : Nat) : Int)).toNat - (p0).toNat) : Nat))) fun x20 => (some (cpy (cpy x8 ((p0).toNat) ((((x8).length : Int)).toNat - (p0).toNat) p2) ((IntKind.i64.wrap (p0 + ((p2).length : Int))).toNat) (((((cpy x8 ((p0).toNat) ((((x8).length : Int)).toNat - (p0).toNat) p2)).length : Int)).toNat - (IntKind.i64.wrap (p0 + ((p2).length : Int))).toNat) ((p1.drop (0 + (p0).toNat)).take (((((p1).length : Nat) : Int)).toNat - (p0).toNat)))))))))))) else (Option.bind (roomx (p1).length C (IntKind.i64.wrap ((((p1).length : Nat) : Int) + ((p2).length : Int)))) fun x22 => (Option.bind (vwok ((p1).length + x22) (IntKind.i64.wrap (p0 + ((p2).length : Int))) ((((p1).length + x22) : Nat) : Int)) fun x25 => (Option.bind (ovok p2 ((((((p1).length + x22) : Nat) : Int)).toNat - (IntKind.i64.wrap (p0 + ((p2).length : Int))).toNat)) fun x26 => (Option.bind (vwok ((p1).length + x22) (IntKind.i64.wrap (p0 + ((p2).length : Int))) ((((p1).length + x22) : Nat) : Int)) fun x30 => (Option.bind (vwok ((p1).length + x22) p0 ((((p1).length + x22) : Nat) : Int)) fun x31 => (Option.bind (cpyU p1 x22 ((IntKind.i64.wrap (p0 + ((p2).length : Int))).toNat) ((((((p1).length + x22) : Nat) : Int)).toNat - (IntKind.i64.wrap (p0 + ((p2).length : Int))).toNat) ((p0).toNat) ((((((p1).length + x22) : Nat) : Int)).toNat - (p0).toNat)) fun x32 => (Option.bind (vwok (x32).length p0 ((x32).length : Int)) fun x35 => (Option.bind (vwok (x32).length ((p0).toNat : Nat) (((p0).toNat : Nat) + (((((x32).length : Int)).toNat - (p0).toNat) : Nat))) fun x36 => (some (cpy x32 ((p0).toNat) ((((x32).length : Int)).toNat - (p0).toNat) p2))))))))))))))
noncomputable def slices_Insert_Keyed_xe708 (p0 : Int) (p1 : List Keyed) (p2 : List Keyed) : Option (List Keyed) := allC (p1).length (fun C => slices_Insert_Keyed_xe708_C p0 p1 p2 C)
/- crossroads/stage.Step -/
noncomputable def stage_Step_k1 (p3 : Item) (x4 : Memory) (x9 : Int × Bool) (z12 : List Keyed) : Option (Memory × Item × Int) :=
  (Option.bind (ixN z12 x9.1) fun x17 => (Option.bind ((z12)[x17]?) fun x18 => (Option.bind (ixN z12 x9.1) fun x19 => (Option.bind ((z12)[x19]?) fun x20 => (Option.bind (ixN (List.set z12 x19 (⟨x20.Key, IntKind.i64.wrap (x18.N + 1)⟩ : Keyed)) x9.1) fun x23 => (Option.bind (((List.set z12 x19 (⟨x20.Key, IntKind.i64.wrap (x18.N + 1)⟩ : Keyed)))[x23]?) fun x24 => (some ((⟨x4.Sum, (List.set z12 x19 (⟨x20.Key, IntKind.i64.wrap (x18.N + 1)⟩ : Keyed)), (if p3.Dep > x4.Dep then p3.Dep else x4.Dep)⟩ : Memory), (⟨p3.Key, x24.N, (if p3.Dep > x4.Dep then p3.Dep else x4.Dep)⟩ : Item), 0))))))))
noncomputable def stage_Step (p0 : Int) (p1 : Int) (p2 : Memory) (p3 : Item) : Option (Memory × Item × Int) :=
  (Option.bind (stage_Check p2) fun x2 => (if (x2 != 0) = true then (some ((⟨0, [], 0⟩ : Memory), (⟨0, 0, 0⟩ : Item), x2)) else (if (decide (p3.Dep < 0)) = true then (some ((⟨0, [], 0⟩ : Memory), (⟨0, 0, 0⟩ : Item), 3)) else (Option.bind (stage_Copy p2) fun x4 => (if (p0 == 2) = true then (if ((decide (p1 < 0)) || decide (p1 > 3)) = true then (some ((⟨0, [], 0⟩ : Memory), (⟨0, 0, 0⟩ : Item), 3)) else (Option.bind (stage_mapped p1 p3) fun x7 => (some (x4, x7, 0)))) else (if (p0 == 3) = true then (some ((⟨IntKind.i64.wrap (x4.Sum + p3.Val), x4.Keys, (if p3.Dep > x4.Dep then p3.Dep else x4.Dep)⟩ : Memory), (⟨p3.Key, IntKind.i64.wrap (x4.Sum + p3.Val), (if p3.Dep > x4.Dep then p3.Dep else x4.Dep)⟩ : Item), 0)) else (if (p0 == 4) = true then (Option.bind (slices_BinarySearchFunc_Keyed_x37fe x4.Keys p3.Key) fun x9 => (if ((!x9.2) && ((x4.Keys).length : Int) == 6) = true then (some ((⟨x4.Sum, x4.Keys, (if p3.Dep > x4.Dep then p3.Dep else x4.Dep)⟩ : Memory), (⟨p3.Key, 0, (if p3.Dep > x4.Dep then p3.Dep else x4.Dep)⟩ : Item), 0)) else (if (!x9.2) = true then (Option.bind (slices_Insert_Keyed_xe708 x9.1 x4.Keys ([(⟨p3.Key, 0⟩ : Keyed)] : List Keyed)) fun x11 => (stage_Step_k1 p3 x4 x9 x11)) else (stage_Step_k1 p3 x4 x9 x4.Keys)))) else (if (p0 == 1) = true then (if (p0 == 1) = true then (some (x4, p3, 0)) else (some ((⟨0, [], 0⟩ : Memory), (⟨0, 0, 0⟩ : Item), 5))) else (if (p0 == 5) = true then (if (p0 == 5) = true then (some (x4, p3, 0)) else (some ((⟨0, [], 0⟩ : Memory), (⟨0, 0, 0⟩ : Item), 5))) else (if (p0 == 6) = true then (if (p0 == 6) = true then (some (x4, p3, 0)) else (some ((⟨0, [], 0⟩ : Memory), (⟨0, 0, 0⟩ : Item), 5))) else (if (p0 == 7) = true then (if (p0 == 7) = true then (some (x4, p3, 0)) else (some ((⟨0, [], 0⟩ : Memory), (⟨0, 0, 0⟩ : Item), 5))) else (if (p0 == 8) = true then (some (x4, p3, 0)) else (some ((⟨0, [], 0⟩ : Memory), (⟨0, 0, 0⟩ : Item), 5))))))))))))))
/- crossroads/stage.All -/
noncomputable def stage_All_l1 (p0 : Int) (p1 : Int) (p2 : List Item) (s1 : Int) (s2 : Int) (s3 : List Keyed) (s4 : Int) (s5 : List Item) : Option ((Int × Int × (List Keyed) × Int × (List Item)) ⊕ ((List Item) × Int)) :=
  (if (decide (s1 < ((p2).length : Int))) = true then (Option.bind (idx p2 s1) fun x7 => (Option.bind (stage_Step p0 p1 (⟨s2, s3, s4⟩ : Memory) x7) fun x9 => (if (x9.2.2 != 0) = true then (Option.map Sum.inr (some ([], x9.2.2))) else (Option.bind (app s5 [x9.2.1]) fun x10 => (some (.inl (IntKind.i64.wrap (s1 + 1), x9.1.Sum, x9.1.Keys, x9.1.Dep, x10))))))) else (Option.map Sum.inr (some (s5, 0))))
noncomputable def stage_All (p0 : Int) (p1 : Int) (p2 : List Item) : Option ((List Item) × Int) :=
  (if (decide (((p2).length : Int) > 20)) = true then (some ([], 2)) else (iter (fun ss_14 : Int × Int × (List Keyed) × Int × (List Item) => stage_All_l1 p0 p1 p2 ss_14.1 ss_14.2.1 ss_14.2.2.1 ss_14.2.2.2.1 ss_14.2.2.2.2) (0, 0, [], 0, [])))
/- slices.Equal[[]crossroads/api.Item,crossroads/api.Item] -/
noncomputable def slices_Equal_Item_l1 (p0 : List Item) (p1 : List Item) (s1 : Int) : Option (Int ⊕ Bool) :=
  (if (decide (s1 < ((p0).length : Int))) = true then (Option.bind (idx p0 s1) fun x4 => (Option.bind (idx p1 s1) fun x5 => (if (!(x4 == x5)) = true then (Option.map Sum.inr (some false)) else (some (.inl (IntKind.i64.wrap (s1 + 1))))))) else (Option.map Sum.inr (some true)))
noncomputable def slices_Equal_Item (p0 : List Item) (p1 : List Item) : Option Bool :=
  (if (((p0).length : Int) != ((p1).length : Int)) = true then (some false) else (iter (fun ss_10 : Int => slices_Equal_Item_l1 p0 p1 ss_10) 0))
/- crossroads/crosslaw.staged -/
noncomputable def crosslaw_staged : Option Bool :=
  (Option.bind (crosslaw_item (1 : Int) (2 : Int)) fun x4 => (Option.bind (crosslaw_item (5 : Int) (3 : Int)) fun x5 => (Option.bind (stage_All (3 : Int) (0 : Int) ([x4, x5] : List Item)) fun x6 => (Option.bind (crosslaw_item (1 : Int) (2 : Int)) fun x10 => (Option.bind (crosslaw_item (1 : Int) (9 : Int)) fun x11 => (Option.bind (stage_All (4 : Int) (0 : Int) ([x10, x11] : List Item)) fun x12 => (Option.bind (if (x6.2 == 0) = true then (if (x12.2 == 0) = true then (Option.bind (crosslaw_item (1 : Int) (2 : Int)) fun x13 => (Option.bind (crosslaw_item (5 : Int) (5 : Int)) fun x14 => (Option.bind (slices_Equal_Item x6.1 ([x13, x14] : List Item)) fun x15 => (if x15 = true then (Option.bind (crosslaw_item (1 : Int) (1 : Int)) fun x16 => (Option.bind (crosslaw_item (1 : Int) (2 : Int)) fun x17 => (Option.bind (slices_Equal_Item x12.1 ([x16, x17] : List Item)) fun x18 => (some x18)))) else (some false))))) else (some false)) else (some false)) fun c19 => (some c19))))))))
/- crossroads/stage.Lane -/
noncomputable def stage_Lane (p0 : Item) (p1 : Int) : Option (Int × Int) :=
  (if ((decide (p1 < 1)) || decide (p1 > 16)) = true then (some (0, 3)) else (Option.bind (rem p0.Key p1) fun x4 => (Option.bind (rem (IntKind.i64.wrap (x4 + p1)) p1) fun x5 => (some (x5, 0)))))
/- crossroads/crosslaw.StageLanes -/
noncomputable def crosslaw_StageLanes (p0 : Item) (p1 : Int) (p2 : Int) : Option Bool :=
  (Option.bind (stage_Lane p0 p2) fun x2 => (Option.bind crosslaw_staged fun x3 => (if ((!x3) || x2.2 != 0) = true then (Option.bind crosslaw_staged fun x6 => (some x6)) else (Option.bind (stage_Lane (⟨p0.Key, p1, p0.Dep⟩ : Item) p2) fun x8 => (if ((x8.2 != 0) || ((x2.1 != x8.1) || ((decide (x2.1 < 0)) || decide (x2.1 ≥ p2)))) = true then (some false) else (if ((decide (p0.Key > 1099511627776)) || decide (p0.Key < (-1099511627776))) = true then (some true) else (Option.bind (stage_Lane (⟨IntKind.i64.wrap (p0.Key + p2), p1, p0.Dep⟩ : Item) p2) fun x12 => (some ((x12.2 == 0) && x2.1 == x12.1)))))))))
end Go.Proofs.Ytegkmfokfakeiaa
