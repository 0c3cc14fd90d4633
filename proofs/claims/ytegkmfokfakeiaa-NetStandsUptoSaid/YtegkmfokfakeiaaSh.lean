/-
  What the functions compute, as plain functions. Printed by a program of ours (wip/gen.py).
-/
import Derived.Test.YtegkmfokfakeiaaData
import Derived.Test.YtegkmfokfakeiaaPz
namespace Go.Proofs.Ytegkmfokfakeiaa
set_option linter.unusedVariables false
set_option maxRecDepth 100000
/- math/bits.Mul64 -/
noncomputable def math_bits_Mul64 (p0 : Int) (p1 : Int) : Option (Int × Int) :=
  (Option.bind (shr .u64 p0 32) fun x2 => (Option.bind (shr .u64 p1 32) fun x4 => (Option.bind (shr .u64 (IntKind.u64.wrap ((ibits .and .u64 p0 4294967295) * (ibits .and .u64 p1 4294967295))) 32) fun x6 => (Option.bind (shr .u64 (IntKind.u64.wrap ((IntKind.u64.wrap (x2 * (ibits .and .u64 p1 4294967295))) + x6)) 32) fun x8 => (Option.bind (shr .u64 (IntKind.u64.wrap ((ibits .and .u64 (IntKind.u64.wrap ((IntKind.u64.wrap (x2 * (ibits .and .u64 p1 4294967295))) + x6)) 4294967295) + (IntKind.u64.wrap ((ibits .and .u64 p0 4294967295) * x4)))) 32) fun x10 => (some (IntKind.u64.wrap ((IntKind.u64.wrap ((IntKind.u64.wrap (x2 * x4)) + x8)) + x10), IntKind.u64.wrap (p0 * p1))))))))
/- math/bits.Mul -/
noncomputable def math_bits_Mul (p0 : Int) (p1 : Int) : Option (Int × Int) :=
  (Option.bind (math_bits_Mul64 p0 p1) fun x2 => (some (x2.1, x2.2)))
/- slices.Repeat[[]crossroads/net.ends,crossroads/net.ends] -/
noncomputable def slices_Repeat_ends_l1  (s6 : Int) (s7 : List Ends) : Option ((Int × (List Ends)) ⊕ (List Ends)) :=
  (if (decide (s6 < ((s7).length : Int))) = true then (Option.bind (vwok (s7).length s6 ((s7).length : Int)) fun x8 => (Option.bind (vwok (s7).length 0 s6) fun x9 => (Option.bind (vwok (s7).length ((s6).toNat : Nat) (((s6).toNat : Nat) + (((((s7).length : Int)).toNat - (s6).toNat) : Nat))) fun x10 => (Option.bind (vwok (s7).length (((0 : Int)).toNat : Nat) ((((0 : Int)).toNat : Nat) + (((s6).toNat - ((0 : Int)).toNat) : Nat))) fun x11 => (some (.inl (IntKind.i64.wrap (s6 + ((min ((((s7).length : Int)).toNat - (s6).toNat) ((s6).toNat - ((0 : Int)).toNat) : Nat) : Int)), (cpy s7 ((s6).toNat) ((((s7).length : Int)).toNat - (s6).toNat) ((s7.drop (((0 : Int)).toNat)).take ((s6).toNat - ((0 : Int)).toNat)))))))))) else (Option.map Sum.inr (some s7)))
noncomputable def slices_Repeat_ends (p0 : List Ends) (p1 : Int) : Option (List Ends) :=
  (if (decide (p1 < 0)) = true then (none) else (Option.bind (math_bits_Mul (IntKind.u64.wrap ((p0).length : Int)) (IntKind.u64.wrap p1)) fun x2 => (if ((decide (x2.1 > 0)) || decide (x2.2 > 9223372036854775807)) = true then (none) else (Option.bind (mk (IntKind.i64.wrap x2.2) (⟨0, 0⟩ : Ends)) fun x5 => (iter (fun ss_8 : Int × (List Ends) => slices_Repeat_ends_l1 ss_8.1 ss_8.2) (((min (x5).length (p0).length : Nat) : Int), (cpy x5 0 (x5).length p0)))))))
/- crossroads/net.arity -/
noncomputable def net_arity_k1 (p0 : Int) (z2 : Bool) : Option (Int × Int × Bool) :=
  (if z2 = true then (some (1, (-1), true)) else (if (p0 == 6) = true then (some ((-1), 1, true)) else (if (p0 == 8) = true then (some (1, 0, true)) else (some (0, 0, false)))))
noncomputable def net_arity_k2 (p0 : Int) (z1 : Bool) : Option (Int × Int × Bool) :=
  (if z1 = true then (some (1, 1, true)) else (if (p0 == 5) = true then (net_arity_k1 p0 (p0 == 5)) else (net_arity_k1 p0 (p0 == 7))))
noncomputable def net_arity (p0 : Int) : Option (Int × Int × Bool) :=
  (if (p0 == 1) = true then (some (0, 1, true)) else (if (p0 == 2) = true then (net_arity_k2 p0 (p0 == 2)) else (if (p0 == 3) = true then (net_arity_k2 p0 (p0 == 3)) else (net_arity_k2 p0 (p0 == 4)))))
/- crossroads/net.fits -/
noncomputable def net_fits (p0 : Int) (p1 : Int) : Option Bool :=
  (some ((p0 == p1) || ((decide (p1 < 0)) && decide (p0 > 0))))
/- crossroads/net.look -/
noncomputable def net_look_l1 (p0 : Net) (s6 : Int) (x9 : Node) (z15 : Int) (s27 : Int) (s28 : List Ends) : Option ((Int × (List Ends)) ⊕ ((Int × Int × (List Ends)) ⊕ ((List Ends) × Int))) :=
  (if (decide (s27 < ((x9.Out).length : Int))) = true then (Option.bind (idx x9.Out s27) fun x30 => (if ((decide (x30 < 0)) || decide (x30 ≥ p0.Rings)) = true then (Option.map Sum.inr (Option.map Sum.inr (some ([], 3)))) else (Option.bind (ixN s28 x30) fun x34 => (Option.bind ((s28)[x34]?) fun x35 => (if (decide (x35.src ≥ 0)) = true then (Option.map Sum.inr (Option.map Sum.inr (some ([], 6)))) else (Option.bind (ixN s28 x30) fun x36 => (Option.bind ((s28)[x36]?) fun x37 => (some (.inl (IntKind.i64.wrap (s27 + 1), (List.set s28 x36 (⟨s6, x37.dst⟩ : Ends)))))))))))) else (Option.map Sum.inr (some (.inl (z15, IntKind.i64.wrap (s6 + 1), s28)))))
noncomputable def net_look_l2 (p0 : Net) (s6 : Int) (x9 : Node) (z15 : Int) (s16 : Int) (s17 : List Ends) : Option ((Int × (List Ends)) ⊕ ((Int × Int × (List Ends)) ⊕ ((List Ends) × Int))) :=
  (if (decide (s16 < ((x9.In).length : Int))) = true then (Option.bind (idx x9.In s16) fun x19 => (if ((decide (x19 < 0)) || decide (x19 ≥ p0.Rings)) = true then (Option.map Sum.inr (Option.map Sum.inr (some ([], 3)))) else (Option.bind (ixN s17 x19) fun x23 => (Option.bind ((s17)[x23]?) fun x24 => (if (decide (x24.dst ≥ 0)) = true then (Option.map Sum.inr (Option.map Sum.inr (some ([], 6)))) else (Option.bind (ixN s17 x19) fun x25 => (Option.bind ((s17)[x25]?) fun x26 => (some (.inl (IntKind.i64.wrap (s16 + 1), (List.set s17 x25 (⟨x26.src, s6⟩ : Ends)))))))))))) else (Option.map Sum.inr (iter (fun ss_178 : Int × (List Ends) => net_look_l1 p0 s6 x9 z15 ss_178.1 ss_178.2) (0, s17))))
noncomputable def net_look_k3 (p0 : Net) (s6 : Int) (s7 : List Ends) (x9 : Node) (z15 : Int) : Option ((Int × Int × (List Ends)) ⊕ ((List Ends) × Int)) :=
  (iter (fun ss_159 : Int × (List Ends) => net_look_l2 p0 s6 x9 z15 ss_159.1 ss_159.2) (0, s7))
noncomputable def net_look_l4 (s5 : Int) (s7 : List Ends) (s38 : Int) : Option (Int ⊕ ((List Ends) × Int)) :=
  (if (decide (s38 < ((s7).length : Int))) = true then (Option.bind (ixN s7 s38) fun x41 => (Option.bind ((s7)[x41]?) fun x42 => (if ((decide (x42.src < 0)) || decide (x42.dst < 0)) = true then (Option.map Sum.inr (some ([], 9))) else (some (.inl (IntKind.i64.wrap (s38 + 1))))))) else (Option.map Sum.inr (if (s5 != 1) = true then (some ([], 4)) else (some (s7, 0)))))
noncomputable def net_look_l5 (p0 : Net) (s5 : Int) (s6 : Int) (s7 : List Ends) : Option ((Int × Int × (List Ends)) ⊕ ((List Ends) × Int)) :=
  (if (decide (s6 < ((p0.Nodes).length : Int))) = true then (Option.bind (idx p0.Nodes s6) fun x9 => (Option.bind (net_arity x9.Kind) fun x11 => (if (!x11.2.2) = true then (Option.map Sum.inr (some ([], 5))) else (Option.bind (net_fits ((x9.In).length : Int) x11.1) fun x12 => (Option.bind (if (!x12) = true then (some true) else (Option.bind (net_fits ((x9.Out).length : Int) x11.2.1) fun x13 => (some (!x13)))) fun c14 => (if c14 = true then (Option.map Sum.inr (some ([], 4))) else (if ((decide (x9.A < 0)) || (if (x9.Kind == 1) = true then ((decide (x9.A ≥ 4)) || (if (x9.Kind == 2) = true then ((decide (x9.A > 3)) || ((x9.Kind != 1) && ((x9.Kind != 2) && x9.A != 0))) else ((x9.Kind != 1) && ((x9.Kind != 2) && x9.A != 0)))) else (if (x9.Kind == 2) = true then ((decide (x9.A > 3)) || ((x9.Kind != 1) && ((x9.Kind != 2) && x9.A != 0))) else ((x9.Kind != 1) && ((x9.Kind != 2) && x9.A != 0))))) = true then (Option.map Sum.inr (some ([], 3))) else (if (x9.Kind == 8) = true then (net_look_k3 p0 s6 s7 x9 (IntKind.i64.wrap (s5 + 1))) else (net_look_k3 p0 s6 s7 x9 s5))))))))) else (Option.map Sum.inr (iter (fun ss_197 : Int => net_look_l4 s5 s7 ss_197) 0)))
noncomputable def net_look (p0 : Net) : Option ((List Ends) × Int) :=
  (if ((decide (((p0.Nodes).length : Int) < 1)) || ((decide (((p0.Nodes).length : Int) > 12)) || ((decide (p0.Rings < 0)) || decide (p0.Rings > 16)))) = true then (some ([], 2)) else (if ((decide (p0.Room < 1)) || decide (p0.Room > 6)) = true then (some ([], 3)) else (Option.bind (slices_Repeat_ends ([(⟨(-1), (-1)⟩ : Ends)] : List Ends) p0.Rings) fun x4 => (iter (fun ss_123 : Int × Int × (List Ends) => net_look_l5 p0 ss_123.1 ss_123.2.1 ss_123.2.2) (0, 0, x4)))))
/- crossroads/net.Order$1 -/
noncomputable def net_Order_1_x523f (p0 : Int) (p1 : List Bool) (p2 : List Ends) : Option Bool :=
  (Option.bind (ixN p2 p0) fun x5 => (Option.bind ((p2)[x5]?) fun x6 => (Option.bind (ixN p1 x6.src) fun x7 => (Option.bind ((p1)[x7]?) fun x8 => (some (!x8))))))
/- slices.IndexFunc[[]int,int] -/
noncomputable def slices_IndexFunc_int_x5d6b_l1 (p0 : List Int) (p1 : List Bool) (p2 : List Ends) (s1 : Int) : Option (Int ⊕ Int) :=
  (if (decide (s1 < ((p0).length : Int))) = true then (Option.bind (idx p0 s1) fun x4 => (Option.bind (net_Order_1_x523f x4 p1 p2) fun x5 => (if x5 = true then (Option.map Sum.inr (some s1)) else (some (.inl (IntKind.i64.wrap (s1 + 1))))))) else (Option.map Sum.inr (some (-1))))
noncomputable def slices_IndexFunc_int_x5d6b (p0 : List Int) (p1 : List Bool) (p2 : List Ends) : Option Int :=
  (iter (fun ss_5 : Int => slices_IndexFunc_int_x5d6b_l1 p0 p1 p2 ss_5) 0)
/- slices.ContainsFunc[[]int,int] -/
noncomputable def slices_ContainsFunc_int_x5d6b (p0 : List Int) (p1 : List Bool) (p2 : List Ends) : Option Bool :=
  (Option.bind (slices_IndexFunc_int_x5d6b p0 p1 p2) fun x2 => (some (decide (x2 ≥ 0))))
/- crossroads/net.Order -/
noncomputable def net_Order_k1 (s5 : List Int) (s6 : List Bool) (z14 : Int) : Option (((List Int) × (List Bool)) ⊕ ((List Int) × Int)) :=
  (if (decide (z14 < 0)) = true then (Option.map Sum.inr (some ([], 7))) else (Option.bind (ixN s6 z14) fun x17 => (Option.bind ((s6)[x17]?) fun x18 => (Option.bind (app s5 [z14]) fun x19 => (some (.inl (x19, (List.set s6 x17 true))))))))
noncomputable def net_Order_l2 (p0 : Net) (x2 : (List Ends) × Int) (s5 : List Int) (s6 : List Bool) (s7 : Int) : Option (Int ⊕ (((List Int) × (List Bool)) ⊕ ((List Int) × Int))) :=
  (if (decide (s7 < ((p0.Nodes).length : Int))) = true then (Option.bind (idx p0.Nodes s7) fun x9 => (Option.bind (ixN s6 s7) fun x10 => (Option.bind ((s6)[x10]?) fun x11 => (Option.bind (if (!x11) = true then (Option.bind (slices_ContainsFunc_int_x5d6b x9.In s6 x2.1) fun x12 => (some (!x12))) else (some false)) fun c13 => (if c13 = true then (Option.map Sum.inr (net_Order_k1 s5 s6 s7)) else (some (.inl (IntKind.i64.wrap (s7 + 1))))))))) else (Option.map Sum.inr (net_Order_k1 s5 s6 (-1))))
noncomputable def net_Order_l3 (p0 : Net) (x2 : (List Ends) × Int) (s5 : List Int) (s6 : List Bool) : Option (((List Int) × (List Bool)) ⊕ ((List Int) × Int)) :=
  (if (decide (((s5).length : Int) < ((p0.Nodes).length : Int))) = true then (iter (fun ss_102 : Int => net_Order_l2 p0 x2 s5 s6 ss_102) 0) else (Option.map Sum.inr (some (s5, 0))))
noncomputable def net_Order (p0 : Net) : Option ((List Int) × Int) :=
  (Option.bind (net_look p0) fun x2 => (if (x2.2 != 0) = true then (some ([], x2.2)) else (Option.bind (mk ((p0.Nodes).length : Int) false) fun x4 => (iter (fun ss_72 : (List Int) × (List Bool) => net_Order_l3 p0 x2 ss_72.1 ss_72.2) ([], x4)))))
/- crossroads/crosslaw.meeting -/
noncomputable def crosslaw_meeting : Option Net :=
  (some (⟨[(⟨1, 0, [], [0]⟩ : Node), (⟨1, 1, [], [1]⟩ : Node), (⟨6, 0, [0, 1], [2]⟩ : Node), (⟨8, 0, [2], []⟩ : Node)], 3, 1⟩ : Net))
/- crossroads/net.Check -/
noncomputable def net_Check (p0 : Net) : Option Int :=
  (Option.bind (net_Order p0) fun x2 => (some x2.2))
/- crossroads/net.Merges -/
noncomputable def net_Merges_l1 (p0 : Net) (s3 : Int) (s4 : List Int) : Option ((Int × (List Int)) ⊕ ((List Int) × Int)) :=
  (if (decide (s3 < ((p0.Nodes).length : Int))) = true then (Option.bind (idx p0.Nodes s3) fun x6 => (if (x6.Kind == 6) = true then (Option.bind (app s4 [s3]) fun x7 => (some (.inl (IntKind.i64.wrap (s3 + 1), x7)))) else (some (.inl (IntKind.i64.wrap (s3 + 1), s4))))) else (Option.map Sum.inr (some (s4, 0))))
noncomputable def net_Merges (p0 : Net) : Option ((List Int) × Int) :=
  (Option.bind (net_Check p0) fun x2 => (if (x2 != 0) = true then (some ([], x2)) else (iter (fun ss_6 : Int × (List Int) => net_Merges_l1 p0 ss_6.1 ss_6.2) (0, []))))
/- slices.Equal[[]int,int] -/
noncomputable def slices_Equal_int_l1 (p0 : List Int) (p1 : List Int) (s1 : Int) : Option (Int ⊕ Bool) :=
  (if (decide (s1 < ((p0).length : Int))) = true then (Option.bind (idx p0 s1) fun x4 => (Option.bind (idx p1 s1) fun x5 => (if (x4 != x5) = true then (Option.map Sum.inr (some false)) else (some (.inl (IntKind.i64.wrap (s1 + 1))))))) else (Option.map Sum.inr (some true)))
noncomputable def slices_Equal_int (p0 : List Int) (p1 : List Int) : Option Bool :=
  (if (((p0).length : Int) != ((p1).length : Int)) = true then (some false) else (iter (fun ss_8 : Int => slices_Equal_int_l1 p0 p1 ss_8) 0))
/- crossroads/crosslaw.item -/
noncomputable def crosslaw_item (p0 : Int) (p1 : Int) : Option Item :=
  (some (⟨p0, p1, 0⟩ : Item))
/- crossroads/crosslaw.two -/
noncomputable def crosslaw_two : Option (List (List Item)) :=
  (Option.bind (crosslaw_item (1 : Int) (1 : Int)) fun x3 => (Option.bind (crosslaw_item (2 : Int) (2 : Int)) fun x4 => (some [[x3], [x4]])))
/- crossroads/net.Sources -/
noncomputable def net_Sources_l1 (s3 : Int) (x5 : List Item) (s6 : Int) : Option (Int ⊕ (Int ⊕ Int)) :=
  (if (decide (s6 < ((x5).length : Int))) = true then (Option.bind (idx x5 s6) fun x8 => (if (x8.Dep != 0) = true then (Option.map Sum.inr (Option.map Sum.inr (some 4))) else (some (.inl (IntKind.i64.wrap (s6 + 1)))))) else (Option.map Sum.inr (some (.inl (IntKind.i64.wrap (s3 + 1))))))
noncomputable def net_Sources_l2 (p0 : Net) (p1 : List (List Item)) (s11 : Int) (s12 : List Bool) : Option ((Int × (List Bool)) ⊕ Int) :=
  (if (decide (s11 < ((p0.Nodes).length : Int))) = true then (Option.bind (idx p0.Nodes s11) fun x14 => (if (x14.Kind != 1) = true then (some (.inl (IntKind.i64.wrap (s11 + 1), s12))) else (if (decide (x14.A ≥ ((p1).length : Int))) = true then (Option.map Sum.inr (some 5)) else (Option.bind (ixN s12 x14.A) fun x17 => (Option.bind ((s12)[x17]?) fun x18 => (if x18 = true then (Option.map Sum.inr (some 6)) else (Option.bind (ixN s12 x14.A) fun x19 => (Option.bind ((s12)[x19]?) fun x20 => (some (.inl (IntKind.i64.wrap (s11 + 1), (List.set s12 x19 true)))))))))))) else (Option.map Sum.inr (some 0)))
noncomputable def net_Sources_l3 (p0 : Net) (p1 : List (List Item)) (s3 : Int) : Option (Int ⊕ Int) :=
  (if (decide (s3 < ((p1).length : Int))) = true then (Option.bind (idx p1 s3) fun x5 => (if (decide (((x5).length : Int) > 20)) = true then (Option.map Sum.inr (some 2)) else (iter (fun ss_36 : Int => net_Sources_l1 s3 x5 ss_36) 0))) else (Option.map Sum.inr (Option.bind (mk ((p1).length : Int) false) fun x10 => (iter (fun ss_52 : Int × (List Bool) => net_Sources_l2 p0 p1 ss_52.1 ss_52.2) (0, x10)))))
noncomputable def net_Sources (p0 : Net) (p1 : List (List Item)) : Option Int :=
  (Option.bind (net_Check p0) fun x2 => (if (x2 != 0) = true then (some x2) else (if (decide (((p1).length : Int) > 4)) = true then (some 2) else (iter (fun ss_27 : Int => net_Sources_l3 p0 p1 ss_27) 0))))
/- crossroads/crosslaw.netted -/
noncomputable def crosslaw_netted : Option Bool :=
  (Option.bind crosslaw_meeting fun x3 => (Option.bind (net_Order x3) fun x4 => (Option.bind crosslaw_meeting fun x7 => (Option.bind (net_Merges x7) fun x8 => (Option.bind (if (x4.2 == 0) = true then (if (x8.2 == 0) = true then (Option.bind (slices_Equal_int x4.1 ([0, 1, 2, 3] : List Int)) fun x9 => (if x9 = true then (Option.bind (slices_Equal_int x8.1 ([2] : List Int)) fun x10 => (if x10 = true then (Option.bind crosslaw_meeting fun x11 => (Option.bind crosslaw_two fun x12 => (Option.bind (net_Sources x11 x12) fun x13 => (some (x13 == 0))))) else (some false))) else (some false))) else (some false)) else (some false)) fun c14 => (some c14))))))
/- crossroads/net.Ends -/
noncomputable def net_Ends (p0 : Net) (p1 : Int) : Option (Int × Int × Int) :=
  (Option.bind (net_Check p0) fun x2 => (if (x2 != 0) = true then (some (0, 0, x2)) else (if ((decide (p1 < 0)) || decide (p1 ≥ p0.Rings)) = true then (some (0, 0, 5)) else (Option.bind (net_look p0) fun x5 => (Option.bind (ixN x5.1 p1) fun x10 => (Option.bind ((x5.1)[x10]?) fun x11 => (Option.bind (ixN x5.1 p1) fun x12 => (Option.bind ((x5.1)[x12]?) fun x13 => (some (x11.src, x13.dst, 0))))))))))
/- crossroads/crosslaw.NetStands -/
noncomputable def crosslaw_NetStands_l1 (p0 : Net) (s8 : List (Int × Int)) (s14 : Int) : Option (Int ⊕ Bool) :=
  (if (decide (s14 < p0.Rings)) = true then (Option.bind (net_Ends p0 s14) fun x16 => (if ((x16.2.2 != 0) || decide (((mget x16.1 s8).getD 0) ≥ ((mget x16.2.1 s8).getD 0))) = true then (Option.map Sum.inr (some false)) else (some (.inl (IntKind.i64.wrap (s14 + 1)))))) else (Option.map Sum.inr (some true)))
noncomputable def crosslaw_NetStands_l2 (p0 : Net) (x2 : (List Int) × Int) (s7 : Int) (s8 : List (Int × Int)) : Option ((Int × (List (Int × Int))) ⊕ Bool) :=
  (if (decide (s7 < ((x2.1).length : Int))) = true then (Option.bind (ixN x2.1 s7) fun x11 => (Option.bind ((x2.1)[x11]?) fun x12 => (some (.inl (IntKind.i64.wrap (s7 + 1), (mset x12 s7 s8)))))) else (Option.map Sum.inr (if ((((s8).length : Int) != ((p0.Nodes).length : Int)) || ((x2.1).length : Int) != ((p0.Nodes).length : Int)) = true then (some false) else (iter (fun ss_17 : Int => crosslaw_NetStands_l1 p0 s8 ss_17) 0))))
noncomputable def crosslaw_NetStands (p0 : Net) : Option Bool :=
  (Option.bind (net_Order p0) fun x2 => (Option.bind crosslaw_netted fun x3 => (if ((!x3) || x2.2 != 0) = true then (Option.bind crosslaw_netted fun x6 => (some x6)) else (iter (fun ss_5 : Int × (List (Int × Int)) => crosslaw_NetStands_l2 p0 x2 ss_5.1 ss_5.2) (0, ([] : List (Int × Int)))))))
/- crossroads/crossref.CheckNet$3 -/
noncomputable def crossref_CheckNet_3 (p0 : Int) : Option Bool :=
  (some (p0 == 0))
/- crossroads/crossref.CheckNet$1 -/
noncomputable def crossref_CheckNet_1 (p0 : Int) : Option Bool :=
  (some (p0 == 1))
/- crossroads/crossref.CheckNet$2 -/
noncomputable def crossref_CheckNet_2 (p0 : Int) : Option Bool :=
  (some (decide (p0 ≥ 1)))
/- slices.Index[[]int,int] -/
noncomputable def slices_Index_int_l1 (p0 : List Int) (p1 : Int) (s1 : Int) : Option (Int ⊕ Int) :=
  (if (decide (s1 < ((p0).length : Int))) = true then (Option.bind (idx p0 s1) fun x3 => (if (p1 == x3) = true then (Option.map Sum.inr (some s1)) else (some (.inl (IntKind.i64.wrap (s1 + 1)))))) else (Option.map Sum.inr (some (-1))))
noncomputable def slices_Index_int (p0 : List Int) (p1 : Int) : Option Int :=
  (iter (fun ss_5 : Int => slices_Index_int_l1 p0 p1 ss_5) 0)
/- slices.Contains[[]int,int] -/
noncomputable def slices_Contains_int (p0 : List Int) (p1 : Int) : Option Bool :=
  (Option.bind (slices_Index_int p0 p1) fun x2 => (some (decide (x2 ≥ 0))))
/- crossroads/crossref.CheckNet -/
noncomputable def crossref_CheckNet_l1 (p0 : Net) (s3 : Int) (s4 : Int) (x8 : Node) (s35 : List (Int × Int)) (s39 : Int) (s40 : List (Int × Int)) : Option ((Int × (List (Int × Int))) ⊕ ((Int × Int × (List (Int × Int)) × (List (Int × Int))) ⊕ ((List Int) × Int))) :=
  (if (decide (s39 < ((x8.Out).length : Int))) = true then (Option.bind (idx x8.Out s39) fun x42 => (if ((decide (x42 < 0)) || decide (x42 ≥ p0.Rings)) = true then (Option.map Sum.inr (Option.map Sum.inr (some ([], 3)))) else (if ((mget x42 s40).isSome) = true then (Option.map Sum.inr (Option.map Sum.inr (some ([], 6)))) else (some (.inl (IntKind.i64.wrap (s39 + 1), (mset x42 s4 s40))))))) else (Option.map Sum.inr (if (x8.Kind == 8) = true then (some (.inl (IntKind.i64.wrap (s3 + 1), IntKind.i64.wrap (s4 + 1), s40, s35))) else (some (.inl (s3, IntKind.i64.wrap (s4 + 1), s40, s35))))))
noncomputable def crossref_CheckNet_l2 (p0 : Net) (s3 : Int) (s4 : Int) (s5 : List (Int × Int)) (x8 : Node) (s34 : Int) (s35 : List (Int × Int)) : Option ((Int × (List (Int × Int))) ⊕ ((Int × Int × (List (Int × Int)) × (List (Int × Int))) ⊕ ((List Int) × Int))) :=
  (if (decide (s34 < ((x8.In).length : Int))) = true then (Option.bind (idx x8.In s34) fun x37 => (if ((decide (x37 < 0)) || decide (x37 ≥ p0.Rings)) = true then (Option.map Sum.inr (Option.map Sum.inr (some ([], 3)))) else (if ((mget x37 s35).isSome) = true then (Option.map Sum.inr (Option.map Sum.inr (some ([], 6)))) else (some (.inl (IntKind.i64.wrap (s34 + 1), (mset x37 s4 s35))))))) else (Option.map Sum.inr (iter (fun ss_391 : Int × (List (Int × Int)) => crossref_CheckNet_l1 p0 s3 s4 x8 s35 ss_391.1 ss_391.2) (0, s5))))
noncomputable def crossref_CheckNet_k3 (p0 : Net) (s3 : Int) (s4 : Int) (s5 : List (Int × Int)) (s6 : List (Int × Int)) (x8 : Node) : Option ((Int × Int × (List (Int × Int)) × (List (Int × Int))) ⊕ ((List Int) × Int)) :=
  (if ((decide (x8.A < 0)) || decide (x8.A > ((mget x8.Kind (mset 2 3 (mset 1 3 ([] : List (Int × Int))))).getD 0))) = true then (Option.map Sum.inr (some ([], 3))) else (iter (fun ss_372 : Int × (List (Int × Int)) => crossref_CheckNet_l2 p0 s3 s4 s5 x8 ss_372.1 ss_372.2) (0, s6)))
noncomputable def crossref_CheckNet_l4 (s5 : List (Int × Int)) (s46 : List Int) (s47 : Int) (s48 : Int) (x52 : Node) (s53 : Bool) (s54 : Int) : Option ((Bool × Int) ⊕ ((Int × Int) ⊕ ((Int × (List Int)) ⊕ ((List Int) × Int)))) :=
  (if (decide (s54 < ((x52.In).length : Int))) = true then (Option.bind (idx x52.In s54) fun x56 => (if s53 = true then (Option.bind (slices_Contains_int s46 ((mget x56 s5).getD 0)) fun x57 => (some (.inl (x57, IntKind.i64.wrap (s54 + 1))))) else (some (.inl (false, IntKind.i64.wrap (s54 + 1)))))) else (Option.map Sum.inr (if s53 = true then (some (.inl (s48, IntKind.i64.wrap (s48 - 1)))) else (some (.inl (s47, IntKind.i64.wrap (s48 - 1)))))))
noncomputable def crossref_CheckNet_l5 (p0 : Net) (s5 : List (Int × Int)) (s45 : Int) (s46 : List Int) (s47 : Int) (s48 : Int) : Option ((Int × Int) ⊕ ((Int × (List Int)) ⊕ ((List Int) × Int))) :=
  (if (decide (s48 ≥ 0)) = true then (Option.bind (slices_Contains_int s46 s48) fun x50 => (if x50 = true then (some (.inl (s47, IntKind.i64.wrap (s48 - 1)))) else (Option.bind (idx p0.Nodes s48) fun x52 => (iter (fun ss_564 : Bool × Int => crossref_CheckNet_l4 s5 s46 s47 s48 x52 ss_564.1 ss_564.2) (true, 0))))) else (Option.map Sum.inr (if (decide (s47 < 0)) = true then (Option.map Sum.inr (some ([], 7))) else (Option.bind (app s46 [s47]) fun x58 => (some (.inl (IntKind.i64.wrap (s45 + 1), x58)))))))
noncomputable def crossref_CheckNet_l6 (p0 : Net) (s5 : List (Int × Int)) (s45 : Int) (s46 : List Int) : Option ((Int × (List Int)) ⊕ ((List Int) × Int)) :=
  (if (decide (s45 < ((p0.Nodes).length : Int))) = true then (iter (fun ss_557 : Int × Int => crossref_CheckNet_l5 p0 s5 s45 s46 ss_557.1 ss_557.2) ((-1), IntKind.i64.wrap (((p0.Nodes).length : Int) - 1))) else (Option.map Sum.inr (some (s46, 0))))
noncomputable def crossref_CheckNet_l7 (p0 : Net) (s3 : Int) (s4 : Int) (s5 : List (Int × Int)) (s6 : List (Int × Int)) : Option ((Int × Int × (List (Int × Int)) × (List (Int × Int))) ⊕ ((List Int) × Int)) :=
  (if (decide (s4 < ((p0.Nodes).length : Int))) = true then (Option.bind (idx p0.Nodes s4) fun x8 => (if (x8.Kind == 1) = true then (Option.bind (crossref_CheckNet_3 ((x8.In).length : Int)) fun x9 => (Option.bind (if (!x9) = true then (some true) else (Option.bind (crossref_CheckNet_1 ((x8.Out).length : Int)) fun x10 => (some (!x10)))) fun c11 => (if c11 = true then (Option.map Sum.inr (some ([], 4))) else (crossref_CheckNet_k3 p0 s3 s4 s5 s6 x8)))) else (if (x8.Kind == 2) = true then (Option.bind (crossref_CheckNet_1 ((x8.In).length : Int)) fun x12 => (Option.bind (if (!x12) = true then (some true) else (Option.bind (crossref_CheckNet_1 ((x8.Out).length : Int)) fun x13 => (some (!x13)))) fun c14 => (if c14 = true then (Option.map Sum.inr (some ([], 4))) else (crossref_CheckNet_k3 p0 s3 s4 s5 s6 x8)))) else (if (x8.Kind == 3) = true then (Option.bind (crossref_CheckNet_1 ((x8.In).length : Int)) fun x15 => (Option.bind (if (!x15) = true then (some true) else (Option.bind (crossref_CheckNet_1 ((x8.Out).length : Int)) fun x16 => (some (!x16)))) fun c17 => (if c17 = true then (Option.map Sum.inr (some ([], 4))) else (crossref_CheckNet_k3 p0 s3 s4 s5 s6 x8)))) else (if (x8.Kind == 4) = true then (Option.bind (crossref_CheckNet_1 ((x8.In).length : Int)) fun x18 => (Option.bind (if (!x18) = true then (some true) else (Option.bind (crossref_CheckNet_1 ((x8.Out).length : Int)) fun x19 => (some (!x19)))) fun c20 => (if c20 = true then (Option.map Sum.inr (some ([], 4))) else (crossref_CheckNet_k3 p0 s3 s4 s5 s6 x8)))) else (if (x8.Kind == 5) = true then (Option.bind (crossref_CheckNet_1 ((x8.In).length : Int)) fun x21 => (Option.bind (if (!x21) = true then (some true) else (Option.bind (crossref_CheckNet_2 ((x8.Out).length : Int)) fun x22 => (some (!x22)))) fun c23 => (if c23 = true then (Option.map Sum.inr (some ([], 4))) else (crossref_CheckNet_k3 p0 s3 s4 s5 s6 x8)))) else (if (x8.Kind == 7) = true then (Option.bind (crossref_CheckNet_1 ((x8.In).length : Int)) fun x24 => (Option.bind (if (!x24) = true then (some true) else (Option.bind (crossref_CheckNet_2 ((x8.Out).length : Int)) fun x25 => (some (!x25)))) fun c26 => (if c26 = true then (Option.map Sum.inr (some ([], 4))) else (crossref_CheckNet_k3 p0 s3 s4 s5 s6 x8)))) else (if (x8.Kind == 6) = true then (Option.bind (crossref_CheckNet_2 ((x8.In).length : Int)) fun x27 => (Option.bind (if (!x27) = true then (some true) else (Option.bind (crossref_CheckNet_1 ((x8.Out).length : Int)) fun x28 => (some (!x28)))) fun c29 => (if c29 = true then (Option.map Sum.inr (some ([], 4))) else (crossref_CheckNet_k3 p0 s3 s4 s5 s6 x8)))) else (if (x8.Kind == 8) = true then (Option.bind (crossref_CheckNet_1 ((x8.In).length : Int)) fun x30 => (Option.bind (if (!x30) = true then (some true) else (Option.bind (crossref_CheckNet_3 ((x8.Out).length : Int)) fun x31 => (some (!x31)))) fun c32 => (if c32 = true then (Option.map Sum.inr (some ([], 4))) else (crossref_CheckNet_k3 p0 s3 s4 s5 s6 x8)))) else (Option.map Sum.inr (some ([], 5)))))))))))) else (Option.map Sum.inr (if ((((s5).length : Int) != p0.Rings) || ((s6).length : Int) != p0.Rings) = true then (some ([], 9)) else (if (s3 != 1) = true then (some ([], 4)) else (iter (fun ss_532 : Int × (List Int) => crossref_CheckNet_l6 p0 s5 ss_532.1 ss_532.2) (0, []))))))
noncomputable def crossref_CheckNet (p0 : Net) : Option ((List Int) × Int) :=
  (if ((((p0.Nodes).length : Int) == 0) || ((decide (((p0.Nodes).length : Int) > 12)) || ((decide (p0.Rings < 0)) || decide (p0.Rings > 16)))) = true then (some ([], 2)) else (if ((decide (p0.Room < 1)) || decide (p0.Room > 6)) = true then (some ([], 3)) else (iter (fun ss_293 : Int × Int × (List (Int × Int)) × (List (Int × Int)) => crossref_CheckNet_l7 p0 ss_293.1 ss_293.2.1 ss_293.2.2.1 ss_293.2.2.2) (0, 0, ([] : List (Int × Int)), ([] : List (Int × Int))))))
/- crossroads/crosslaw.NetOrder -/
noncomputable def crosslaw_NetOrder_l1 (p0 : Net) (x4 : (List Int) × Int) (x6 : (List Int) × Int) (s11 : Int) (s12 : List Int) : Option ((Int × (List Int)) ⊕ Bool) :=
  (if (decide (s11 < ((p0.Nodes).length : Int))) = true then (Option.bind (idx p0.Nodes s11) fun x14 => (if ((x6.2 == 0) && x14.Kind == 6) = true then (Option.bind (app s12 [s11]) fun x16 => (some (.inl (IntKind.i64.wrap (s11 + 1), x16)))) else (some (.inl (IntKind.i64.wrap (s11 + 1), s12))))) else (Option.map Sum.inr (Option.bind (slices_Equal_int x4.1 s12) fun x18 => (some x18))))
noncomputable def crosslaw_NetOrder (p0 : Net) : Option Bool :=
  (Option.bind (net_Order p0) fun x2 => (Option.bind (net_Merges p0) fun x4 => (Option.bind (crossref_CheckNet p0) fun x6 => (Option.bind crosslaw_netted fun x7 => (Option.bind (if (!x7) = true then (some true) else (Option.bind (net_Check p0) fun x8 => (if (x8 != x6.2) = true then (some true) else (if (x2.2 != x6.2) = true then (some true) else (if (x4.2 != x6.2) = true then (some true) else (Option.bind (slices_Equal_int x2.1 x6.1) fun x9 => (some (!x9)))))))) fun c10 => (if c10 = true then (some false) else (iter (fun ss_13 : Int × (List Int) => crosslaw_NetOrder_l1 p0 x4 x6 ss_13.1 ss_13.2) (0, []))))))))
/- crossroads/crossref.CheckSources -/
noncomputable def crossref_CheckSources_l1 (s3 : Int) (x5 : List Item) (s6 : Int) : Option (Int ⊕ (Int ⊕ Int)) :=
  (if (decide (s6 < ((x5).length : Int))) = true then (Option.bind (idx x5 s6) fun x8 => (if (x8.Dep != 0) = true then (Option.map Sum.inr (Option.map Sum.inr (some 4))) else (some (.inl (IntKind.i64.wrap (s6 + 1)))))) else (Option.map Sum.inr (some (.inl (IntKind.i64.wrap (s3 + 1))))))
noncomputable def crossref_CheckSources_l2 (p0 : Net) (p1 : List (List Item)) (s9 : Int) (s10 : List (Int × Int)) : Option ((Int × (List (Int × Int))) ⊕ Int) :=
  (if (decide (s9 < ((p0.Nodes).length : Int))) = true then (Option.bind (idx p0.Nodes s9) fun x12 => (if (x12.Kind == 1) = true then (if (decide (x12.A ≥ ((p1).length : Int))) = true then (Option.map Sum.inr (some 5)) else (if (decide (((mget x12.A (mset x12.A (IntKind.i64.wrap (((mget x12.A s10).getD 0) + 1)) s10)).getD 0) > 1)) = true then (Option.map Sum.inr (some 6)) else (some (.inl (IntKind.i64.wrap (s9 + 1), (mset x12.A (IntKind.i64.wrap (((mget x12.A s10).getD 0) + 1)) s10)))))) else (some (.inl (IntKind.i64.wrap (s9 + 1), s10))))) else (Option.map Sum.inr (some 0)))
noncomputable def crossref_CheckSources_l3 (p0 : Net) (p1 : List (List Item)) (s3 : Int) : Option (Int ⊕ Int) :=
  (if (decide (s3 < ((p1).length : Int))) = true then (Option.bind (idx p1 s3) fun x5 => (if (decide (((x5).length : Int) > 20)) = true then (Option.map Sum.inr (some 2)) else (iter (fun ss_36 : Int => crossref_CheckSources_l1 s3 x5 ss_36) 0))) else (Option.map Sum.inr (iter (fun ss_52 : Int × (List (Int × Int)) => crossref_CheckSources_l2 p0 p1 ss_52.1 ss_52.2) (0, ([] : List (Int × Int))))))
noncomputable def crossref_CheckSources (p0 : Net) (p1 : List (List Item)) : Option Int :=
  (Option.bind (crossref_CheckNet p0) fun x2 => (if (x2.2 != 0) = true then (some x2.2) else (if (decide (((p1).length : Int) > 4)) = true then (some 2) else (iter (fun ss_27 : Int => crossref_CheckSources_l3 p0 p1 ss_27) 0))))
/- crossroads/crosslaw.NetSources -/
noncomputable def crosslaw_NetSources (p0 : Net) (p1 : List (List Item)) : Option Bool :=
  (Option.bind crosslaw_netted fun x1 => (Option.bind (if x1 = true then (Option.bind (net_Sources p0 p1) fun x2 => (Option.bind (crossref_CheckSources p0 p1) fun x3 => (some (x2 == x3)))) else (some false)) fun c4 => (some c4)))
/- crossroads/crosslaw.NetEnds$1 -/
noncomputable def crosslaw_NetEnds_1_x38ec (p0 : Node) (p1 : Int) : Option Bool :=
  (Option.bind (slices_Contains_int p0.Out p1) fun x2 => (some x2))
/- slices.IndexFunc[[]crossroads/api.Node,crossroads/api.Node] -/
noncomputable def slices_IndexFunc_Node_xfd40_l1 (p0 : List Node) (p1 : Int) (s1 : Int) : Option (Int ⊕ Int) :=
  (if (decide (s1 < ((p0).length : Int))) = true then (Option.bind (idx p0 s1) fun x4 => (Option.bind (crosslaw_NetEnds_1_x38ec x4 p1) fun x5 => (if x5 = true then (Option.map Sum.inr (some s1)) else (some (.inl (IntKind.i64.wrap (s1 + 1))))))) else (Option.map Sum.inr (some (-1))))
noncomputable def slices_IndexFunc_Node_xfd40 (p0 : List Node) (p1 : Int) : Option Int :=
  (iter (fun ss_5 : Int => slices_IndexFunc_Node_xfd40_l1 p0 p1 ss_5) 0)
/- crossroads/crosslaw.NetEnds$2 -/
noncomputable def crosslaw_NetEnds_2_x38ec (p0 : Node) (p1 : Int) : Option Bool :=
  (Option.bind (slices_Contains_int p0.In p1) fun x2 => (some x2))
/- slices.IndexFunc[[]crossroads/api.Node,crossroads/api.Node] -/
noncomputable def slices_IndexFunc_Node_x9a71_l1 (p0 : List Node) (p1 : Int) (s1 : Int) : Option (Int ⊕ Int) :=
  (if (decide (s1 < ((p0).length : Int))) = true then (Option.bind (idx p0 s1) fun x4 => (Option.bind (crosslaw_NetEnds_2_x38ec x4 p1) fun x5 => (if x5 = true then (Option.map Sum.inr (some s1)) else (some (.inl (IntKind.i64.wrap (s1 + 1))))))) else (Option.map Sum.inr (some (-1))))
noncomputable def slices_IndexFunc_Node_x9a71 (p0 : List Node) (p1 : Int) : Option Int :=
  (iter (fun ss_5 : Int => slices_IndexFunc_Node_x9a71_l1 p0 p1 ss_5) 0)
/- crossroads/crosslaw.NetEnds -/
noncomputable def crosslaw_NetEnds_k1 (p0 : Net) (p1 : Int) (x2 : Int × Int × Int) (z5 : Int) : Option Bool :=
  (Option.bind crosslaw_netted fun x6 => (if ((!x6) || z5 != 0) = true then (Option.bind crosslaw_netted fun x8 => (some (x8 && ((x2.2.2 == z5) && ((x2.1 == 0) && x2.2.1 == 0))))) else (Option.bind (slices_IndexFunc_Node_xfd40 p0.Nodes p1) fun x11 => (Option.bind (slices_IndexFunc_Node_x9a71 p0.Nodes p1) fun x13 => (some ((x2.2.2 == 0) && ((x2.1 == x11) && x2.2.1 == x13)))))))
noncomputable def crosslaw_NetEnds (p0 : Net) (p1 : Int) : Option Bool :=
  (Option.bind (net_Ends p0 p1) fun x2 => (Option.bind (crossref_CheckNet p0) fun x4 => (if ((x4.2 == 0) && ((decide (p1 < 0)) || decide (p1 ≥ p0.Rings))) = true then (crosslaw_NetEnds_k1 p0 p1 x2 5) else (crosslaw_NetEnds_k1 p0 p1 x2 x4.2))))
end Go.Proofs.Ytegkmfokfakeiaa
