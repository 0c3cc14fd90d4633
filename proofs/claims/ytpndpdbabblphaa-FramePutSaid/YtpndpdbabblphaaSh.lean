/-
  What the functions compute, as plain functions. Printed by a program of ours (wip/gen.py).
-/
import Derived.Test.YtpndpdbabblphaaData
import Derived.Test.YtpndpdbabblphaaPz
namespace Go.Proofs.Ytpndpdbabblphaa
set_option linter.unusedVariables false
set_option maxRecDepth 100000
/- slices.Equal[[]int,int] -/
noncomputable def slices_Equal_int_l1 (p0 : List Int) (p1 : List Int) (s1 : Int) : Option (Int ⊕ Bool) :=
  (if (decide (s1 < ((p0).length : Int))) = true then (Option.bind (idx p0 s1) fun x4 => (Option.bind (idx p1 s1) fun x5 => (if (x4 != x5) = true then (Option.map Sum.inr (some false)) else (some (.inl (IntKind.i64.wrap (s1 + 1))))))) else (Option.map Sum.inr (some true)))
noncomputable def slices_Equal_int (p0 : List Int) (p1 : List Int) : Option Bool :=
  (if (((p0).length : Int) != ((p1).length : Int)) = true then (some false) else (iter (fun ss_11 : Int => slices_Equal_int_l1 p0 p1 ss_11) 0))
/- crossroads/crosslaw.Names -/
noncomputable def crosslaw_Names_l1  (s1 : Int) : Option (Int ⊕ Bool) :=
  (if (decide (s1 < (([0, 1, 2, 3, 4, 5, 6, 7, 8, 9, 10, 11, 12, 13]).length : Int))) = true then (Option.bind (ixN [0, 1, 2, 3, 4, 5, 6, 7, 8, 9, 10, 11, 12, 13] s1) fun x4 => (Option.bind (([0, 1, 2, 3, 4, 5, 6, 7, 8, 9, 10, 11, 12, 13])[x4]?) fun x5 => (if (x5 != s1) = true then (Option.map Sum.inr (some false)) else (some (.inl (IntKind.i64.wrap (s1 + 1))))))) else (Option.map Sum.inr (Option.bind (slices_Equal_int ([12, 16, 6, 4, 20, 6, 2000, 500, 4000, 64, 200, 300, 60, 600, 200, 60] : List Int) ([12, 16, 6, 4, 20, 6, 2000, 500, 4000, 64, 200, 300, 60, 600, 200, 60] : List Int)) fun x6 => (Option.bind (if x6 = true then (Option.bind (slices_Equal_int ([1, 2, 3, 4, 5, 6, 7, 8, 1, 2, 3, 4, 5, 6, 7] : List Int) ([1, 2, 3, 4, 5, 6, 7, 8, 1, 2, 3, 4, 5, 6, 7] : List Int)) fun x7 => (some x7)) else (some false)) fun c8 => (some c8)))))
noncomputable def crosslaw_Names : Option Bool :=
  (iter (fun ss_7 : Int => crosslaw_Names_l1 ss_7) 0)
/- crossroads/frame.sum -/
noncomputable def frame_sum_l1 (s2 : Int) (s7 : Int) (s8 : Int) : Option ((Int × Int) ⊕ ((Int × Int) ⊕ Int)) :=
  (if (decide (s8 < 8)) = true then (Option.bind (shl .i64 s7 1) fun x10 => (if ((ibits .and .i64 x10 65536) != 0) = true then (some (.inl (ibits .xor .i64 x10 69665, IntKind.i64.wrap (s8 + 1)))) else (some (.inl (x10, IntKind.i64.wrap (s8 + 1)))))) else (Option.map Sum.inr (some (.inl (s7, IntKind.i64.wrap (s2 + 1))))))
noncomputable def frame_sum_l2 (p0 : List UInt8) (s1 : Int) (s2 : Int) : Option ((Int × Int) ⊕ Int) :=
  (if (decide (s2 < ((p0).length : Int))) = true then (Option.bind (idx p0 s2) fun x5 => (Option.bind (shl .i64 (IntKind.i64.wrap (x5.toNat : Int)) 8) fun x6 => (iter (fun ss_28 : Int × Int => frame_sum_l1 s2 ss_28.1 ss_28.2) (ibits .xor .i64 s1 x6, 0)))) else (Option.map Sum.inr (some s1)))
noncomputable def frame_sum (p0 : List UInt8) : Option Int :=
  (iter (fun ss_21 : Int × Int => frame_sum_l2 p0 ss_21.1 ss_21.2) (65535, 0))
/- crossroads/frame.Put -/
noncomputable def frame_Put (p0 : List UInt8) : Option ((List UInt8) × Int) :=
  (if (p0 == []) = true then (some ([], 4)) else (if (decide (((p0).length : Int) > 60)) = true then (some ([], 2)) else (Option.bind (cat (toStr [IntKind.u8.wrap ((p0).length : Int)]) p0) fun x3 => (Option.bind (frame_sum x3) fun x4 => (Option.bind (cat (toStr [IntKind.u8.wrap ((p0).length : Int)]) p0) fun x8 => (Option.bind (shr .i64 x4 8) fun x9 => (Option.bind (cat x8 (toStr [IntKind.u8.wrap x9, IntKind.u8.wrap x4])) fun x10 => (some (x10, 0)))))))))
/- crossroads/frame.Read -/
noncomputable def frame_Read_l1 (p0 : List UInt8) (s1 : Int) (s2 : List (List UInt8)) : Option ((Int × (List (List UInt8))) ⊕ ((List (List UInt8)) × Int × Int)) :=
  (if (decide (s1 < ((p0).length : Int))) = true then (Option.bind (sub p0 s1 ((p0).length : Int)) fun x4 => (Option.bind (idx x4 0) fun x6 => (if ((decide ((IntKind.i64.wrap (x6.toNat : Int)) < 1)) || ((decide ((IntKind.i64.wrap (x6.toNat : Int)) > 60)) || decide (((x4).length : Int) < (IntKind.i64.wrap ((IntKind.i64.wrap (x6.toNat : Int)) + 3))))) = true then (Option.map Sum.inr (some (s2, s1, 0))) else (Option.bind (sub x4 0 (IntKind.i64.wrap ((IntKind.i64.wrap (x6.toNat : Int)) + 1))) fun x10 => (Option.bind (frame_sum x10) fun x11 => (Option.bind (idx x4 (IntKind.i64.wrap ((IntKind.i64.wrap (x6.toNat : Int)) + 1))) fun x15 => (Option.bind (shl .i64 (IntKind.i64.wrap (x15.toNat : Int)) 8) fun x16 => (Option.bind (idx x4 (IntKind.i64.wrap ((IntKind.i64.wrap (x6.toNat : Int)) + 2))) fun x17 => (if ((ibits .or .i64 x16 (IntKind.i64.wrap (x17.toNat : Int))) != x11) = true then (Option.map Sum.inr (some (s2, s1, 0))) else (Option.bind (sub x4 1 (IntKind.i64.wrap ((IntKind.i64.wrap (x6.toNat : Int)) + 1))) fun x20 => (Option.bind (app s2 [x20]) fun x21 => (some (.inl (IntKind.i64.wrap (s1 + (IntKind.i64.wrap ((IntKind.i64.wrap (x6.toNat : Int)) + 3))), x21)))))))))))))) else (Option.map Sum.inr (some (s2, s1, 0))))
noncomputable def frame_Read (p0 : List UInt8) : Option ((List (List UInt8)) × Int × Int) :=
  (if (decide (((p0).length : Int) > 12800)) = true then (some ([], 0, 2)) else (iter (fun ss_13 : Int × (List (List UInt8)) => frame_Read_l1 p0 ss_13.1 ss_13.2) (0, [])))
/- slices.Equal[[]string,string] -/
noncomputable def slices_Equal_string_l1 (p0 : List (List UInt8)) (p1 : List (List UInt8)) (s1 : Int) : Option (Int ⊕ Bool) :=
  (if (decide (s1 < ((p0).length : Int))) = true then (Option.bind (idx p0 s1) fun x4 => (Option.bind (idx p1 s1) fun x5 => (if (!(x4 == x5)) = true then (Option.map Sum.inr (some false)) else (some (.inl (IntKind.i64.wrap (s1 + 1))))))) else (Option.map Sum.inr (some true)))
noncomputable def slices_Equal_string (p0 : List (List UInt8)) (p1 : List (List UInt8)) : Option Bool :=
  (if (((p0).length : Int) != ((p1).length : Int)) = true then (some false) else (iter (fun ss_11 : Int => slices_Equal_string_l1 p0 p1 ss_11) 0))
/- crossroads/crosslaw.framed -/
noncomputable def crosslaw_framed : Option Bool :=
  (Option.bind (frame_Put ([49, 50, 51, 52, 53, 54, 55, 56] : List UInt8)) fun x2 => (Option.bind (cat x2.1 [120]) fun x5 => (Option.bind (frame_Read x5) fun x6 => (Option.bind (if (x2.2 == 0) = true then (if (x6.2.2 == 0) = true then (if (((x2.1).length : Int) == 11) = true then (if (x6.2.1 == 11) = true then (Option.bind (slices_Equal_string x6.1 ([[49, 50, 51, 52, 53, 54, 55, 56]] : List (List UInt8))) fun x7 => (if x7 = true then (Option.bind (idx x2.1 0) fun x8 => (some ((x8.toNat : Int) == 8))) else (some false))) else (some false)) else (some false)) else (some false)) else (some false)) fun c9 => (some c9)))))
/- crossroads/crossref.SumOf -/
noncomputable def crossref_SumOf_l1 (p0 : List UInt8) (s3 : Int) (s5 : Int) (s6 : List Int) : Option ((Int × (List Int)) ⊕ ((Int × (List Int)) ⊕ Int)) :=
  (if (decide (s5 ≥ 0)) = true then (Option.bind (idx p0 s3) fun x7 => (Option.bind (shr .u8 (x7.toNat : Int) s5) fun x8 => (Option.bind (app s6 [ibits .and .u8 x8 1]) fun x9 => (some (.inl (IntKind.i64.wrap (s5 - 1), x9)))))) else (Option.map Sum.inr (some (.inl (IntKind.i64.wrap (s3 + 1), s6)))))
noncomputable def crossref_SumOf_l2 (s18 : Int) (s24 : Int) (s25 : List Int) : Option ((Int × (List Int)) ⊕ ((Int × (List Int)) ⊕ Int)) :=
  (if (decide (s24 < (([1, 0, 0, 0, 1, 0, 0, 0, 0, 0, 0, 1, 0, 0, 0, 0, 1]).length : Int))) = true then (Option.bind (ixN [1, 0, 0, 0, 1, 0, 0, 0, 0, 0, 0, 1, 0, 0, 0, 0, 1] s24) fun x28 => (Option.bind (([1, 0, 0, 0, 1, 0, 0, 0, 0, 0, 0, 1, 0, 0, 0, 0, 1])[x28]?) fun x29 => (Option.bind (ixN s25 (IntKind.i64.wrap (s18 + s24))) fun x30 => (Option.bind ((s25)[x30]?) fun x31 => (Option.bind (ixN s25 (IntKind.i64.wrap (s18 + s24))) fun x32 => (Option.bind ((s25)[x32]?) fun x33 => (some (.inl (IntKind.i64.wrap (s24 + 1), (List.set s25 x32 (ibits .xor .u8 x31 x29))))))))))) else (Option.map Sum.inr (some (.inl (IntKind.i64.wrap (s18 + 1), s25)))))
noncomputable def crossref_SumOf_l3 (x35 : List Int) (s36 : Int) (s37 : Int) : Option ((Int × Int) ⊕ Int) :=
  (if (decide (s37 < ((x35).length : Int))) = true then (Option.bind (idx x35 s37) fun x39 => (some (.inl (IntKind.i64.wrap ((IntKind.i64.wrap (2 * s36)) + (IntKind.i64.wrap x39)), IntKind.i64.wrap (s37 + 1))))) else (Option.map Sum.inr (some s36)))
noncomputable def crossref_SumOf_l4  (s18 : Int) (s19 : List Int) : Option ((Int × (List Int)) ⊕ Int) :=
  (if (decide ((IntKind.i64.wrap (s18 + 16)) < ((s19).length : Int))) = true then (Option.bind (ixN s19 s18) fun x22 => (Option.bind ((s19)[x22]?) fun x23 => (if (x23 == 1) = true then (iter (fun ss_53 : Int × (List Int) => crossref_SumOf_l2 s18 ss_53.1 ss_53.2) (0, s19)) else (some (.inl (IntKind.i64.wrap (s18 + 1), s19)))))) else (Option.map Sum.inr (Option.bind (sub s19 (IntKind.i64.wrap (((s19).length : Int) - 16)) ((s19).length : Int)) fun x35 => (iter (fun ss_60 : Int × Int => crossref_SumOf_l3 x35 ss_60.1 ss_60.2) (0, 0)))))
noncomputable def crossref_SumOf_l5  (s12 : Int) (s13 : List Int) : Option ((Int × (List Int)) ⊕ Int) :=
  (if (decide (s12 < 16)) = true then (Option.bind (ixN s13 s12) fun x14 => (Option.bind ((s13)[x14]?) fun x15 => (Option.bind (ixN s13 s12) fun x16 => (Option.bind ((s13)[x16]?) fun x17 => (some (.inl (IntKind.i64.wrap (s12 + 1), (List.set s13 x16 (ibits .xor .u8 x15 1))))))))) else (Option.map Sum.inr (iter (fun ss_47 : Int × (List Int) => crossref_SumOf_l4 ss_47.1 ss_47.2) (0, s13))))
noncomputable def crossref_SumOf_l6 (p0 : List UInt8) (s3 : Int) (s4 : List Int) : Option ((Int × (List Int)) ⊕ Int) :=
  (if (decide (s3 < ((p0).length : Int))) = true then (iter (fun ss_20 : Int × (List Int) => crossref_SumOf_l1 p0 s3 ss_20.1 ss_20.2) (7, s4)) else (Option.map Sum.inr (Option.bind (appz s4 16 0) fun x11 => (iter (fun ss_27 : Int × (List Int) => crossref_SumOf_l5 ss_27.1 ss_27.2) (0, x11)))))
noncomputable def crossref_SumOf (p0 : List UInt8) : Option Int :=
  (Option.bind (mk0 (IntKind.i64.wrap ((IntKind.i64.wrap (8 * ((p0).length : Int))) + 16))) fun x2 => (iter (fun ss_15 : Int × (List Int) => crossref_SumOf_l6 p0 ss_15.1 ss_15.2) (0, x2)))
/- crossroads/crossref.Framed -/
noncomputable def crossref_Framed (p0 : List UInt8) : Option (List UInt8) :=
  (Option.bind (cat (toStr [IntKind.u8.wrap ((p0).length : Int)]) p0) fun x2 => (Option.bind (crossref_SumOf x2) fun x4 => (Option.bind (quo .i64 x4 256) fun x8 => (Option.bind (rem x4 256) fun x9 => (Option.bind (cat x2 (toStr [IntKind.u8.wrap x8, IntKind.u8.wrap x9])) fun x10 => (some x10))))))
/- crossroads/crossref.Unframe -/
noncomputable def crossref_Unframe_l1 (p0 : List UInt8) (s1 : Int) (s2 : List (List UInt8)) : Option ((Int × (List (List UInt8))) ⊕ ((List (List UInt8)) × Int)) :=
  (Option.bind (sub p0 s1 ((p0).length : Int)) fun x4 => (if (decide (((x4).length : Int) < 4)) = true then (Option.map Sum.inr (some (s2, s1))) else (Option.bind (idx x4 0) fun x6 => (Option.bind (if (decide ((IntKind.i64.wrap (x6.toNat : Int)) < 1)) = true then (some true) else (if (decide ((IntKind.i64.wrap (x6.toNat : Int)) > 60)) = true then (some true) else (if (decide ((IntKind.i64.wrap ((IntKind.i64.wrap (x6.toNat : Int)) + 3)) > ((x4).length : Int))) = true then (some true) else (Option.bind (sub x4 1 (IntKind.i64.wrap ((IntKind.i64.wrap (x6.toNat : Int)) + 1))) fun x7 => (Option.bind (crossref_Framed x7) fun x8 => (Option.bind (sub x4 0 (IntKind.i64.wrap ((IntKind.i64.wrap (x6.toNat : Int)) + 3))) fun x9 => (some (!(x8 == x9))))))))) fun c10 => (if c10 = true then (Option.map Sum.inr (some (s2, s1))) else (Option.bind (sub x4 1 (IntKind.i64.wrap ((IntKind.i64.wrap (x6.toNat : Int)) + 1))) fun x13 => (Option.bind (app s2 [x13]) fun x14 => (some (.inl (IntKind.i64.wrap (s1 + (IntKind.i64.wrap ((IntKind.i64.wrap (x6.toNat : Int)) + 3))), x14))))))))))
noncomputable def crossref_Unframe (p0 : List UInt8) : Option ((List (List UInt8)) × Int) :=
  (iter (fun ss_17 : Int × (List (List UInt8)) => crossref_Unframe_l1 p0 ss_17.1 ss_17.2) (0, []))
/- crossroads/crosslaw.FramePut -/
noncomputable def crosslaw_FramePut_k1 (p1 : List UInt8) (x4 : (List (List UInt8)) × Int × Int) : Option Bool :=
  (if (decide (((p1).length : Int) > 12800)) = true then (some ((x4.2.2 == 2) && ((((x4.1).length : Int) == 0) && x4.2.1 == 0))) else (Option.bind (crossref_Unframe p1) fun x13 => (Option.bind (if (x4.2.2 == 0) = true then (if (x4.2.1 == x13.2) = true then (Option.bind (slices_Equal_string x4.1 x13.1) fun x14 => (some x14)) else (some false)) else (some false)) fun c15 => (some c15))))
noncomputable def crosslaw_FramePut (p0 : List UInt8) (p1 : List UInt8) : Option Bool :=
  (Option.bind (frame_Put p0) fun x2 => (Option.bind (frame_Read p1) fun x4 => (Option.bind crosslaw_framed fun x6 => (if (!x6) = true then (some false) else (if (p0 == []) = true then (if ((x2.2 != 4) || !(x2.1 == [])) = true then (some false) else (crosslaw_FramePut_k1 p1 x4)) else (if (decide (((p0).length : Int) > 60)) = true then (if ((x2.2 != 2) || !(x2.1 == [])) = true then (some false) else (crosslaw_FramePut_k1 p1 x4)) else (Option.bind (if (x2.2 != 0) = true then (some true) else (Option.bind (crossref_Framed p0) fun x9 => (some (!(x2.1 == x9))))) fun c10 => (if c10 = true then (some false) else (crosslaw_FramePut_k1 p1 x4)))))))))
/- crossroads/crossref.At -/
noncomputable def crossref_At (p0 : Int) (p1 : Int) : Option Int :=
  (Option.bind (rem p0 p1) fun x2 => (if (decide (x2 < 0)) = true then (some (IntKind.i64.wrap (x2 + p1))) else (some x2)))
/- crossroads/crosslaw.FrameTorn -/
noncomputable def crosslaw_FrameTorn_l1 (s1 : List UInt8) (s3 : List Int) (s4 : List (List UInt8)) (x16 : Int) (s17 : Int) : Option (Int ⊕ Bool) :=
  (Option.bind (ixN s3 s17) fun x18 => (Option.bind ((s3)[x18]?) fun x19 => (Option.bind (if (decide (x19 < x16)) = true then (if (decide ((IntKind.i64.wrap (s17 + 1)) < ((s3).length : Int))) = true then (Option.bind (ixN s3 (IntKind.i64.wrap (s17 + 1))) fun x20 => (Option.bind ((s3)[x20]?) fun x21 => (some (decide (x21 ≤ x16))))) else (some false)) else (some false)) fun c22 => (if c22 = true then (some (.inl (IntKind.i64.wrap (s17 + 1)))) else (Option.map Sum.inr (Option.bind (sub s1 0 x16) fun x25 => (Option.bind (frame_Read x25) fun x26 => (Option.bind crosslaw_framed fun x27 => (Option.bind (if x27 = true then (if (x26.2.2 == 0) = true then (Option.bind (ixN s3 s17) fun x28 => (Option.bind ((s3)[x28]?) fun x29 => (if (x26.2.1 == x29) = true then (Option.bind (sub s4 0 s17) fun x30 => (Option.bind (slices_Equal_string x26.1 x30) fun x31 => (some x31))) else (some false)))) else (some false)) else (some false)) fun c32 => (some c32))))))))))
noncomputable def crosslaw_FrameTorn_l2 (p0 : List (List UInt8)) (p1 : Int) (s1 : List UInt8) (s2 : Int) (s3 : List Int) (s4 : List (List UInt8)) : Option (((List UInt8) × Int × (List Int) × (List (List UInt8))) ⊕ Bool) :=
  (if (decide (s2 < ((p0).length : Int))) = true then (Option.bind (idx p0 s2) fun x6 => (Option.bind (frame_Put x6) fun x8 => (if ((x8.2 != 0) || decide ((IntKind.i64.wrap (((s1).length : Int) + ((x8.1).length : Int))) > 2000)) = true then (some (.inl (s1, IntKind.i64.wrap (s2 + 1), s3, s4))) else (Option.bind (cat s1 x8.1) fun x11 => (Option.bind (app s4 [x6]) fun x13 => (Option.bind (app s3 [((x11).length : Int)]) fun x14 => (some (.inl (x11, IntKind.i64.wrap (s2 + 1), x14, x13))))))))) else (Option.map Sum.inr (Option.bind (crossref_At p1 (IntKind.i64.wrap (((s1).length : Int) + 1))) fun x16 => (iter (fun ss_21 : Int => crosslaw_FrameTorn_l1 s1 s3 s4 x16 ss_21) 0))))
noncomputable def crosslaw_FrameTorn (p0 : List (List UInt8)) (p1 : Int) : Option Bool :=
  (iter (fun ss_7 : (List UInt8) × Int × (List Int) × (List (List UInt8)) => crosslaw_FrameTorn_l2 p0 p1 ss_7.1 ss_7.2.1 ss_7.2.2.1 ss_7.2.2.2) ([], 0, [0], []))
/- slices.Clone[[]crossroads/api.Item,crossroads/api.Item] -/
def slices_Clone_Item (p0 : List Item) : Option (List Item) := app [] p0
/- crossroads/ring.Put -/
noncomputable def ring_Put (p0 : List Item) (p1 : Int) (p2 : Item) : Option ((List Item) × Int) :=
  (if ((decide (p1 < 1)) || decide (p1 > 6)) = true then (some ([], 3)) else (if (decide (((p0).length : Int) > p1)) = true then (some ([], 2)) else (if (((p0).length : Int) == p1) = true then (some ([], 8)) else (Option.bind (slices_Clone_Item p0) fun x4 => (Option.bind (app x4 [p2]) fun x5 => (some (x5, 0)))))))
/- crossroads/ring.Take -/
noncomputable def ring_Take (p0 : List Item) : Option (Item × (List Item) × Int) :=
  (if (decide (((p0).length : Int) > 6)) = true then (some ((⟨0, 0, 0⟩ : Item), [], 2)) else (if (((p0).length : Int) == 0) = true then (some ((⟨0, 0, 0⟩ : Item), [], 9)) else (Option.bind (idx p0 0) fun x4 => (Option.bind (sub p0 1 ((p0).length : Int)) fun x5 => (Option.bind (slices_Clone_Item x5) fun x6 => (some (x4, x6, 0)))))))
/- crossroads/crosslaw.item -/
noncomputable def crosslaw_item (p0 : Int) (p1 : Int) : Option Item :=
  (some (⟨p0, p1, 0⟩ : Item))
/- crossroads/ring.Pass$1 -/
noncomputable def ring_Pass_1_x1893 : Option (Int × (List Item) × (List Item)) :=
  (Option.bind (ring_Take ([] : List Item)) fun x2 => (if (x2.2.2 == 0) = true then (Option.bind (app [] [x2.1]) fun x3 => (some (x2.2.2, x2.2.1, x3))) else (some (x2.2.2, [], []))))
/- crossroads/ring.Pass$2 -/
noncomputable def ring_Pass_2_x529f (p0 : Int) (p1 : List Item) (p2 : Int) : Option (Int × Int × (List Item)) :=
  (if (p0 == ((p1).length : Int)) = true then (some (9, p0, [])) else (Option.bind (idx p1 p0) fun x3 => (Option.bind (ring_Put ([] : List Item) p2 x3) fun x4 => (if (x4.2 == 0) = true then (some (x4.2, IntKind.i64.wrap (p0 + 1), x4.1)) else (some (x4.2, p0, []))))))
/- crossroads/ring.Pass$1 -/
noncomputable def ring_Pass_1_xf26a (p0 : List Item) : Option (Int × (List Item) × (List Item)) :=
  (Option.bind (ring_Take ([] : List Item)) fun x2 => (if (x2.2.2 == 0) = true then (Option.bind (app p0 [x2.1]) fun x3 => (some (x2.2.2, x2.2.1, x3))) else (some (x2.2.2, [], p0))))
/- crossroads/ring.Pass$1 -/
noncomputable def ring_Pass_1_xbb06 (p0 : List Item) (p1 : List Item) : Option (Int × (List Item) × (List Item)) :=
  (Option.bind (ring_Take p0) fun x2 => (if (x2.2.2 == 0) = true then (Option.bind (app p1 [x2.1]) fun x3 => (some (x2.2.2, x2.2.1, x3))) else (some (x2.2.2, p0, p1))))
/- crossroads/ring.Pass$2 -/
noncomputable def ring_Pass_2_x50ef (p0 : Int) (p1 : List Item) (p2 : Int) (p3 : List Item) : Option (Int × Int × (List Item)) :=
  (if (p0 == ((p1).length : Int)) = true then (some (9, p0, p3)) else (Option.bind (idx p1 p0) fun x3 => (Option.bind (ring_Put p3 p2 x3) fun x4 => (if (x4.2 == 0) = true then (some (x4.2, IntKind.i64.wrap (p0 + 1), x4.1)) else (some (x4.2, p0, p3))))))
/- crossroads/ring.Pass -/
noncomputable def ring_Pass_l1 (p0 : List Item) (p1 : Int) (p2 : List Int) (s3 : Int) (s4 : List Item) (s5 : List Item) (s6 : Int) : Option ((Int × (List Item) × (List Item) × Int) ⊕ ((List Item) × (List Item) × Int)) :=
  (if (decide (s3 < ((p2).length : Int))) = true then (Option.bind (idx p2 s3) fun x8 => (if ((decide (x8 < 0)) || decide (x8 ≥ 2)) = true then (Option.map Sum.inr (some ([], [], 3))) else (Option.bind (if (x8 == 0) = true then (Option.bind (ring_Pass_1_xbb06 s5 s4) fun x10 => (some (x10.1, x10.2.2, x10.2.1, s6))) else (Option.bind (isAt x8 1) fun x11 => (Option.bind (ring_Pass_2_x50ef s6 p0 p1 s5) fun x12 => (some (x12.1, s4, x12.2.2, x12.2.1))))) fun zt_47 => (match zt_47 with | (c13, c14, c15, c16) => (if (c13 != 0) = true then (Option.map Sum.inr (some ([], [], c13))) else (some (.inl (IntKind.i64.wrap (s3 + 1), c14, c15, c16)))))))) else (Option.map Sum.inr (some (s4, s5, 0))))
noncomputable def ring_Pass (p0 : List Item) (p1 : Int) (p2 : List Int) : Option ((List Item) × (List Item) × Int) :=
  (if ((decide (p1 < 1)) || decide (p1 > 6)) = true then (some ([], [], 3)) else (if ((decide (((p0).length : Int) > 20)) || decide (((p2).length : Int) > 2000)) = true then (some ([], [], 2)) else (iter (fun ss_39 : Int × (List Item) × (List Item) × Int => ring_Pass_l1 p0 p1 p2 ss_39.1 ss_39.2.1 ss_39.2.2.1 ss_39.2.2.2) (0, [], [], 0))))
/- slices.Equal[[]crossroads/api.Item,crossroads/api.Item] -/
noncomputable def slices_Equal_Item_l1 (p0 : List Item) (p1 : List Item) (s1 : Int) : Option (Int ⊕ Bool) :=
  (if (decide (s1 < ((p0).length : Int))) = true then (Option.bind (idx p0 s1) fun x4 => (Option.bind (idx p1 s1) fun x5 => (if (!(x4 == x5)) = true then (Option.map Sum.inr (some false)) else (some (.inl (IntKind.i64.wrap (s1 + 1))))))) else (Option.map Sum.inr (some true)))
noncomputable def slices_Equal_Item (p0 : List Item) (p1 : List Item) : Option Bool :=
  (if (((p0).length : Int) != ((p1).length : Int)) = true then (some false) else (iter (fun ss_11 : Int => slices_Equal_Item_l1 p0 p1 ss_11) 0))
/- crossroads/crosslaw.ringed -/
noncomputable def crosslaw_ringed : Option Bool :=
  (Option.bind (crosslaw_item (1 : Int) (2 : Int)) fun x4 => (Option.bind (crosslaw_item (3 : Int) (4 : Int)) fun x5 => (Option.bind (ring_Pass ([x4, x5] : List Item) (2 : Int) ([1, 1, 0] : List Int)) fun x6 => (Option.bind (if (x6.2.2 == 0) = true then (Option.bind (crosslaw_item (1 : Int) (2 : Int)) fun x7 => (Option.bind (slices_Equal_Item x6.1 ([x7] : List Item)) fun x8 => (if x8 = true then (Option.bind (crosslaw_item (3 : Int) (4 : Int)) fun x9 => (Option.bind (slices_Equal_Item x6.2.1 ([x9] : List Item)) fun x10 => (some x10))) else (some false)))) else (some false)) fun c11 => (some c11)))))
/- crossroads/crosslaw.RingPut -/
noncomputable def crosslaw_RingPut_k1 (p0 : List Item) (p2 : Item) (x2 : List Item) (x4 : (List Item) × Int) (x6 : Item × (List Item) × Int) (z10 : Int) : Option Bool :=
  (Option.bind (if (x4.2 != z10) = true then (some true) else (if (z10 != 0) = true then (if (((x4.1).length : Int) != 0) = true then (some true) else (if (z10 == 0) = true then (Option.bind (app x2 [p2]) fun x11 => (Option.bind (slices_Equal_Item x4.1 x11) fun x12 => (some (!x12)))) else (some false))) else (if (z10 == 0) = true then (Option.bind (app x2 [p2]) fun x13 => (Option.bind (slices_Equal_Item x4.1 x13) fun x14 => (some (!x14)))) else (some false)))) fun c15 => (if c15 = true then (some false) else (if (decide (((p0).length : Int) > 6)) = true then (some ((x6.2.2 == 2) && ((x6.1 == (⟨0, 0, 0⟩ : Item)) && ((x6.2.1).length : Int) == 0))) else (if (((p0).length : Int) == 0) = true then (some ((x6.2.2 == 9) && ((x6.1 == (⟨0, 0, 0⟩ : Item)) && ((x6.2.1).length : Int) == 0))) else (Option.bind (if (x6.2.2 == 0) = true then (Option.bind (idx p0 0) fun x18 => (if (x6.1 == x18) = true then (Option.bind (sub p0 1 ((p0).length : Int)) fun x19 => (Option.bind (slices_Equal_Item x6.2.1 x19) fun x20 => (some x20))) else (some false))) else (some false)) fun c21 => (some c21))))))
noncomputable def crosslaw_RingPut (p0 : List Item) (p1 : Int) (p2 : Item) : Option Bool :=
  (Option.bind (slices_Clone_Item p0) fun x2 => (Option.bind (ring_Put x2 p1 p2) fun x4 => (Option.bind (ring_Take x2) fun x6 => (Option.bind crosslaw_ringed fun x7 => (Option.bind (if (!x7) = true then (some true) else (Option.bind (slices_Equal_Item x2 p0) fun x8 => (some (!x8)))) fun c9 => (if c9 = true then (some false) else (if ((decide (p1 < 1)) || decide (p1 > 6)) = true then (crosslaw_RingPut_k1 p0 p2 x2 x4 x6 3) else (if (decide (((p0).length : Int) > p1)) = true then (crosslaw_RingPut_k1 p0 p2 x2 x4 x6 2) else (if (((p0).length : Int) == p1) = true then (crosslaw_RingPut_k1 p0 p2 x2 x4 x6 8) else (crosslaw_RingPut_k1 p0 p2 x2 x4 x6 0))))))))))
/- crossroads/crosslaw.RingPass -/
noncomputable def crosslaw_RingPass_l1 (p0 : List Item) (p1 : Int) (p2 : List Int) (x2 : (List Item) × (List Item) × Int) (s4 : Int) (s5 : Int) (s6 : Int) (s7 : Int) : Option ((Int × Int × Int × Int) ⊕ Bool) :=
  (if ((s4 == 0) && decide (s7 < ((p2).length : Int))) = true then (Option.bind (idx p2 s7) fun x9 => (if ((x9 == 1) && s5 == ((p0).length : Int)) = true then (some (.inl (9, s5, s6, IntKind.i64.wrap (s7 + 1)))) else (Option.bind (idx p2 s7) fun x11 => (if ((x11 == 1) && (IntKind.i64.wrap (s5 - s6)) == p1) = true then (some (.inl (8, s5, s6, IntKind.i64.wrap (s7 + 1)))) else (Option.bind (idx p2 s7) fun x14 => (if (x14 == 1) = true then (some (.inl (s4, IntKind.i64.wrap (s5 + 1), s6, IntKind.i64.wrap (s7 + 1)))) else (Option.bind (idx p2 s7) fun x15 => (if ((x15 == 0) && s5 == s6) = true then (some (.inl (9, s5, s6, IntKind.i64.wrap (s7 + 1)))) else (Option.bind (idx p2 s7) fun x18 => (if (x18 == 0) = true then (some (.inl (s4, s5, IntKind.i64.wrap (s6 + 1), IntKind.i64.wrap (s7 + 1)))) else (some (.inl (3, s5, s6, IntKind.i64.wrap (s7 + 1)))))))))))))) else (Option.map Sum.inr (Option.bind crosslaw_ringed fun x19 => (if ((!x19) || s4 != 0) = true then (Option.bind crosslaw_ringed fun x21 => (some (x21 && ((x2.2.2 == s4) && ((((x2.1).length : Int) == 0) && ((x2.2.1).length : Int) == 0))))) else (Option.bind (if (x2.2.2 == 0) = true then (Option.bind (sub p0 0 s6) fun x23 => (Option.bind (slices_Equal_Item x2.1 x23) fun x24 => (if x24 = true then (Option.bind (sub p0 s6 s5) fun x25 => (Option.bind (slices_Equal_Item x2.2.1 x25) fun x26 => (some x26))) else (some false)))) else (some false)) fun c27 => (some c27))))))
noncomputable def crosslaw_RingPass_k2 (p0 : List Item) (p1 : Int) (p2 : List Int) (x2 : (List Item) × (List Item) × Int) (z3 : Int) : Option Bool :=
  (iter (fun ss_26 : Int × Int × Int × Int => crosslaw_RingPass_l1 p0 p1 p2 x2 ss_26.1 ss_26.2.1 ss_26.2.2.1 ss_26.2.2.2) (z3, 0, 0, 0))
noncomputable def crosslaw_RingPass (p0 : List Item) (p1 : Int) (p2 : List Int) : Option Bool :=
  (Option.bind (ring_Pass p0 p1 p2) fun x2 => (if ((decide (p1 < 1)) || decide (p1 > 6)) = true then (crosslaw_RingPass_k2 p0 p1 p2 x2 3) else (if ((decide (((p0).length : Int) > 20)) || decide (((p2).length : Int) > 2000)) = true then (crosslaw_RingPass_k2 p0 p1 p2 x2 2) else (crosslaw_RingPass_k2 p0 p1 p2 x2 0))))
/- crossroads/crosslaw.RingKeeps -/
noncomputable def crosslaw_RingKeeps (p0 : List Item) (p1 : Int) (p2 : List Int) : Option Bool :=
  (Option.bind (ring_Pass p0 p1 p2) fun x2 => (Option.bind crosslaw_ringed fun x3 => (if ((!x3) || x2.2.2 != 0) = true then (Option.bind crosslaw_ringed fun x6 => (some x6)) else (Option.bind (if (decide ((IntKind.i64.wrap (((x2.1).length : Int) + ((x2.2.1).length : Int))) ≤ ((p0).length : Int))) = true then (if (decide (((x2.2.1).length : Int) ≤ p1)) = true then (Option.bind (slices_Clone_Item x2.1) fun x7 => (Option.bind (app x7 x2.2.1) fun x8 => (Option.bind (sub p0 0 (IntKind.i64.wrap (((x2.1).length : Int) + ((x2.2.1).length : Int)))) fun x9 => (Option.bind (slices_Equal_Item x8 x9) fun x10 => (some x10))))) else (some false)) else (some false)) fun c11 => (some c11)))))
/- crossroads/gate.Free$1 -/
noncomputable def gate_Free_1_x38ec (p0 : Item) (p1 : Int) : Option Bool :=
  (some (decide (p0.Dep > p1)))
/- slices.IndexFunc[[]crossroads/api.Item,crossroads/api.Item] -/
noncomputable def slices_IndexFunc_Item_xe0d8_l1 (p0 : List Item) (p1 : Int) (s1 : Int) : Option (Int ⊕ Int) :=
  (if (decide (s1 < ((p0).length : Int))) = true then (Option.bind (idx p0 s1) fun x4 => (Option.bind (gate_Free_1_x38ec x4 p1) fun x5 => (if x5 = true then (Option.map Sum.inr (some s1)) else (some (.inl (IntKind.i64.wrap (s1 + 1))))))) else (Option.map Sum.inr (some (-1))))
noncomputable def slices_IndexFunc_Item_xe0d8 (p0 : List Item) (p1 : Int) : Option Int :=
  (iter (fun ss_7 : Int => slices_IndexFunc_Item_xe0d8_l1 p0 p1 ss_7) 0)
/- crossroads/gate.Free -/
noncomputable def gate_Free (p0 : List Item) (p1 : Int) : Option (Int × Int) :=
  (if (decide (((p0).length : Int) > 2000)) = true then (some (0, 2)) else (if ((decide (p1 < 0)) || decide (p1 > 500)) = true then (some (0, 3)) else (Option.bind (slices_IndexFunc_Item_xe0d8 p0 p1) fun x3 => (if (decide (x3 < 0)) = true then (some (((p0).length : Int), 0)) else (some (x3, 0))))))
/- crossroads/gate.Plain -/
noncomputable def gate_Plain_l1 (x2 : List Item) (s3 : Int) (s4 : List Item) : Option ((Int × (List Item)) ⊕ ((List Item) × Int)) :=
  (if (decide (s3 < ((x2).length : Int))) = true then (Option.bind (ixN s4 s3) fun x5 => (Option.bind ((s4)[x5]?) fun x6 => (some (.inl (IntKind.i64.wrap (s3 + 1), (List.set s4 x5 (⟨x6.Key, x6.Val, 0⟩ : Item))))))) else (Option.map Sum.inr (some (s4, 0))))
noncomputable def gate_Plain (p0 : List Item) : Option ((List Item) × Int) :=
  (if (decide (((p0).length : Int) > 2000)) = true then (some ([], 2)) else (Option.bind (slices_Clone_Item p0) fun x2 => (iter (fun ss_5 : Int × (List Item) => gate_Plain_l1 x2 ss_5.1 ss_5.2) (0, x2))))
/- crossroads/gate.Begins$1 -/
noncomputable def gate_Begins_1 (p0 : Item) (p1 : Item) : Option Bool :=
  (some ((p0.Key == p1.Key) && p0.Val == p1.Val))
/- slices.EqualFunc[[]crossroads/api.Item,[]crossroads/api.Item,crossroads/api.Item,crossroads/api.Item] -/
noncomputable def slices_EqualFunc_Itemapi_Item_api_Item_api_Item_x74e1_l1 (p0 : List Item) (p1 : List Item) (s1 : Int) : Option (Int ⊕ Bool) :=
  (if (decide (s1 < ((p0).length : Int))) = true then (Option.bind (idx p0 s1) fun x3 => (Option.bind (idx p1 s1) fun x5 => (Option.bind (gate_Begins_1 x3 x5) fun x7 => (if (!x7) = true then (Option.map Sum.inr (some false)) else (some (.inl (IntKind.i64.wrap (s1 + 1)))))))) else (Option.map Sum.inr (some true)))
noncomputable def slices_EqualFunc_Itemapi_Item_api_Item_api_Item_x74e1 (p0 : List Item) (p1 : List Item) : Option Bool :=
  (if (((p0).length : Int) != ((p1).length : Int)) = true then (some false) else (iter (fun ss_9 : Int => slices_EqualFunc_Itemapi_Item_api_Item_api_Item_x74e1_l1 p0 p1 ss_9) 0))
/- crossroads/gate.Begins -/
noncomputable def gate_Begins (p0 : List Item) (p1 : List Item) : Option Bool :=
  (Option.bind (if (decide (((p0).length : Int) ≤ ((p1).length : Int))) = true then (Option.bind (sub p1 0 ((p0).length : Int)) fun x1 => (Option.bind (slices_EqualFunc_Itemapi_Item_api_Item_api_Item_x74e1 p0 x1) fun x2 => (some x2))) else (some false)) fun c3 => (some c3))
/- crossroads/gate.Behind -/
noncomputable def gate_Behind (p0 : List Item) (p1 : List Item) (p2 : Int) : Option ((List Item) × Int) :=
  (if (decide (((p0).length : Int) > 2000)) = true then (some ([], 2)) else (Option.bind (gate_Free p1 p2) fun x2 => (if (x2.2 != 0) = true then (some ([], x2.2)) else (Option.bind (gate_Begins p0 p1) fun x3 => (Option.bind (if (!x3) = true then (Option.bind (gate_Begins p1 p0) fun x4 => (some (!x4))) else (some false)) fun c5 => (if c5 = true then (some ([], 4)) else (if (decide (x2.1 ≤ ((p0).length : Int))) = true then (some ([], 0)) else (Option.bind (sub p1 ((p0).length : Int) x2.1) fun x8 => (Option.bind (gate_Plain x8) fun x9 => (some (x9.1, x9.2)))))))))))
/- crossroads/crosslaw.gated -/
noncomputable def crosslaw_gated : Option Bool :=
  (Option.bind (gate_Behind ([] : List Item) ([(⟨1, 0, 1⟩ : Item), (⟨2, 0, 3⟩ : Item)] : List Item) (2 : Int)) fun x2 => (Option.bind (if (x2.2 == 0) = true then (Option.bind (slices_Equal_Item x2.1 ([(⟨1, 0, 0⟩ : Item)] : List Item)) fun x3 => (some x3)) else (some false)) fun c4 => (some c4)))
/- crossroads/crosslaw.GateFree -/
noncomputable def crosslaw_GateFree_l1 (p0 : List Item) (p2 : Int) (x2 : Int × Int) (s25 : Int) : Option (Int ⊕ Bool) :=
  (Option.bind (if (decide (s25 < ((p0).length : Int))) = true then (Option.bind (idx p0 s25) fun x26 => (some (decide (x26.Dep ≤ p2)))) else (some false)) fun c27 => (if c27 = true then (some (.inl (IntKind.i64.wrap (s25 + 1)))) else (Option.map Sum.inr (some ((x2.2 == 0) && x2.1 == s25)))))
noncomputable def crosslaw_GateFree_l2 (p0 : List Item) (p2 : Int) (x2 : Int × Int) (x4 : (List Item) × Int) (s16 : Int) (s17 : List Item) : Option ((Int × (List Item)) ⊕ Bool) :=
  (if (decide (s16 < ((p0).length : Int))) = true then (Option.bind (idx p0 s16) fun x19 => (Option.bind (app s17 [(⟨x19.Key, x19.Val, 0⟩ : Item)]) fun x20 => (some (.inl (IntKind.i64.wrap (s16 + 1), x20))))) else (Option.map Sum.inr (Option.bind (if (x4.2 != 0) = true then (some true) else (Option.bind (slices_Equal_Item x4.1 s17) fun x21 => (some (!x21)))) fun c22 => (if c22 = true then (some false) else (if ((decide (p2 < 0)) || decide (p2 > 500)) = true then (some ((x2.2 == 3) && x2.1 == 0)) else (iter (fun ss_51 : Int => crosslaw_GateFree_l1 p0 p2 x2 ss_51) 0))))))
noncomputable def crosslaw_GateFree_l3 (p0 : List Item) (p1 : List Item) (p2 : Int) (x2 : Int × Int) (x4 : (List Item) × Int) (s5 : Bool) (s6 : Int) : Option ((Bool × Int) ⊕ Bool) :=
  (if (s5 && decide (s6 < ((p0).length : Int))) = true then (Option.bind (idx p0 s6) fun x8 => (Option.bind (idx p1 s6) fun x9 => (if (x8.Key == x9.Key) = true then (Option.bind (idx p0 s6) fun x10 => (Option.bind (idx p1 s6) fun x11 => (some (.inl (x10.Val == x11.Val, IntKind.i64.wrap (s6 + 1)))))) else (some (.inl (false, IntKind.i64.wrap (s6 + 1))))))) else (Option.map Sum.inr (Option.bind crosslaw_gated fun x12 => (Option.bind (if (!x12) = true then (some true) else (Option.bind (gate_Begins p0 p1) fun x13 => (some (!(x13 == s5))))) fun c14 => (if c14 = true then (some false) else (if (decide (((p0).length : Int) > 2000)) = true then (some ((x2.2 == 2) && ((x4.2 == 2) && ((x2.1 == 0) && ((x4.1).length : Int) == 0)))) else (iter (fun ss_33 : Int × (List Item) => crosslaw_GateFree_l2 p0 p2 x2 x4 ss_33.1 ss_33.2) (0, []))))))))
noncomputable def crosslaw_GateFree (p0 : List Item) (p1 : List Item) (p2 : Int) : Option Bool :=
  (Option.bind (gate_Free p0 p2) fun x2 => (Option.bind (gate_Plain p0) fun x4 => (iter (fun ss_13 : Bool × Int => crosslaw_GateFree_l3 p0 p1 p2 x2 x4 ss_13.1 ss_13.2) (decide (((p0).length : Int) ≤ ((p1).length : Int)), 0))))
/- crossroads/crosslaw.alike$1 -/
noncomputable def crosslaw_alike_1 (p0 : Item) (p1 : Item) : Option Bool :=
  (some ((p0.Key == p1.Key) && p0.Val == p1.Val))
/- slices.EqualFunc[[]crossroads/api.Item,[]crossroads/api.Item,crossroads/api.Item,crossroads/api.Item] -/
noncomputable def slices_EqualFunc_Itemapi_Item_api_Item_api_Item_xafd2_l1 (p0 : List Item) (p1 : List Item) (s1 : Int) : Option (Int ⊕ Bool) :=
  (if (decide (s1 < ((p0).length : Int))) = true then (Option.bind (idx p0 s1) fun x3 => (Option.bind (idx p1 s1) fun x5 => (Option.bind (crosslaw_alike_1 x3 x5) fun x7 => (if (!x7) = true then (Option.map Sum.inr (some false)) else (some (.inl (IntKind.i64.wrap (s1 + 1)))))))) else (Option.map Sum.inr (some true)))
noncomputable def slices_EqualFunc_Itemapi_Item_api_Item_api_Item_xafd2 (p0 : List Item) (p1 : List Item) : Option Bool :=
  (if (((p0).length : Int) != ((p1).length : Int)) = true then (some false) else (iter (fun ss_9 : Int => slices_EqualFunc_Itemapi_Item_api_Item_api_Item_xafd2_l1 p0 p1 ss_9) 0))
/- crossroads/crosslaw.alike -/
noncomputable def crosslaw_alike (p0 : List Item) (p1 : List Item) : Option Bool :=
  (Option.bind (slices_EqualFunc_Itemapi_Item_api_Item_api_Item_xafd2 p0 p1) fun x2 => (some x2))
/- crossroads/crosslaw.GateBehind -/
noncomputable def crosslaw_GateBehind_k1 (x2 : (List Item) × Int) (s17 : List Item) : Option Bool :=
  (Option.bind (if (x2.2 == 0) = true then (Option.bind (slices_Equal_Item x2.1 s17) fun x21 => (some x21)) else (some false)) fun c22 => (some c22))
noncomputable def crosslaw_GateBehind_l2 (p0 : List Item) (p1 : List Item) (p2 : Int) (x2 : (List Item) × Int) (s16 : Int) (s17 : List Item) : Option ((Int × (List Item)) ⊕ Bool) :=
  (if (decide (s16 < ((p1).length : Int))) = true then (Option.bind (idx p1 s16) fun x19 => (if (decide (x19.Dep > p2)) = true then (Option.map Sum.inr (crosslaw_GateBehind_k1 x2 s17)) else (if (decide (s16 ≥ ((p0).length : Int))) = true then (Option.bind (app s17 [(⟨x19.Key, x19.Val, 0⟩ : Item)]) fun x20 => (some (.inl (IntKind.i64.wrap (s16 + 1), x20)))) else (some (.inl (IntKind.i64.wrap (s16 + 1), s17)))))) else (Option.map Sum.inr (crosslaw_GateBehind_k1 x2 s17)))
noncomputable def crosslaw_GateBehind_k3 (p0 : List Item) (p1 : List Item) (p2 : Int) (x2 : (List Item) × Int) (z11 : Int) : Option Bool :=
  (Option.bind crosslaw_gated fun x12 => (if ((!x12) || z11 != 0) = true then (Option.bind crosslaw_gated fun x14 => (some (x14 && ((x2.2 == z11) && ((x2.1).length : Int) == 0)))) else (iter (fun ss_35 : Int × (List Item) => crosslaw_GateBehind_l2 p0 p1 p2 x2 ss_35.1 ss_35.2) (0, []))))
noncomputable def crosslaw_GateBehind (p0 : List Item) (p1 : List Item) (p2 : Int) : Option Bool :=
  (Option.bind (gate_Behind p0 p1 p2) fun x2 => (if ((decide (((p0).length : Int) > 2000)) || decide (((p1).length : Int) > 2000)) = true then (crosslaw_GateBehind_k3 p0 p1 p2 x2 2) else (if ((decide (p2 < 0)) || decide (p2 > 500)) = true then (crosslaw_GateBehind_k3 p0 p1 p2 x2 3) else (Option.bind (sub p0 0 (if ((p1).length : Int) < ((p0).length : Int) then ((p1).length : Int) else ((p0).length : Int))) fun x8 => (Option.bind (sub p1 0 (if ((p1).length : Int) < ((p0).length : Int) then ((p1).length : Int) else ((p0).length : Int))) fun x9 => (Option.bind (crosslaw_alike x8 x9) fun x10 => (if (!x10) = true then (crosslaw_GateBehind_k3 p0 p1 p2 x2 4) else (crosslaw_GateBehind_k3 p0 p1 p2 x2 0))))))))
/- crossroads/crosslaw.GateMore -/
noncomputable def crosslaw_GateMore_k1 (p0 : List Item) (z3 : Int) (z4 : Int) : Option Bool :=
  (Option.bind (gate_Behind ([] : List Item) p0 z3) fun x6 => (Option.bind (gate_Behind x6.1 p0 z4) fun x8 => (Option.bind (gate_Behind ([] : List Item) p0 z4) fun x10 => (Option.bind crosslaw_gated fun x11 => (if ((!x11) || ((x6.2 != 0) || x10.2 != 0)) = true then (Option.bind crosslaw_gated fun x14 => (some x14)) else (Option.bind (if (x8.2 == 0) = true then (Option.bind (slices_Clone_Item x6.1) fun x15 => (Option.bind (app x15 x8.1) fun x16 => (Option.bind (slices_Equal_Item x16 x10.1) fun x17 => (if x17 = true then (Option.bind (gate_Begins x10.1 p0) fun x18 => (some x18)) else (some false))))) else (some false)) fun c19 => (some c19)))))))
noncomputable def crosslaw_GateMore (p0 : List Item) (p1 : Int) (p2 : Int) : Option Bool :=
  (if (decide (p1 > p2)) = true then (crosslaw_GateMore_k1 p0 p2 p1) else (crosslaw_GateMore_k1 p0 p1 p2))
/- crossroads/frame.Choices -/
noncomputable def frame_Choices_l1 (p0 : List Choice) (s1 : Int) (s2 : List Int) : Option ((Int × (List Int)) ⊕ ((List UInt8) × Int)) :=
  (if (decide (s1 < ((p0).length : Int))) = true then (Option.bind (idx p0 s1) fun x4 => (if ((decide (x4.Node < 0)) || ((decide (x4.Node ≥ 12)) || ((decide (x4.Lane < 0)) || decide (x4.Lane ≥ 16)))) = true then (Option.map Sum.inr (some ([], 3))) else (Option.bind (app s2 [IntKind.u8.wrap x4.Node, IntKind.u8.wrap x4.Lane]) fun x6 => (some (.inl (IntKind.i64.wrap (s1 + 1), x6)))))) else (Option.map Sum.inr (some (toStr s2, 0))))
noncomputable def frame_Choices (p0 : List Choice) : Option ((List UInt8) × Int) :=
  (if (decide (((p0).length : Int) > 30)) = true then (some ([], 2)) else (iter (fun ss_15 : Int × (List Int) => frame_Choices_l1 p0 ss_15.1 ss_15.2) (0, [])))
/- crossroads/frame.OfChoices -/
noncomputable def frame_OfChoices_l1 (p0 : List UInt8) (s3 : Int) (s4 : List Choice) : Option ((Int × (List Choice)) ⊕ ((List Choice) × Int)) :=
  (if (decide (s3 < ((p0).length : Int))) = true then (Option.bind (idx p0 s3) fun x7 => (Option.bind (idx p0 (IntKind.i64.wrap (s3 + 1))) fun x8 => (if ((decide ((IntKind.i64.wrap (x7.toNat : Int)) ≥ 12)) || decide ((IntKind.i64.wrap (x8.toNat : Int)) ≥ 16)) = true then (Option.map Sum.inr (some ([], 12))) else (Option.bind (app s4 [(⟨IntKind.i64.wrap (x7.toNat : Int), IntKind.i64.wrap (x8.toNat : Int)⟩ : Choice)]) fun x10 => (some (.inl (IntKind.i64.wrap (s3 + 2), x10))))))) else (Option.map Sum.inr (some (s4, 0))))
noncomputable def frame_OfChoices (p0 : List UInt8) : Option ((List Choice) × Int) :=
  (if (decide (((p0).length : Int) > 60)) = true then (some ([], 2)) else (Option.bind (rem ((p0).length : Int) 2) fun x2 => (if (x2 != 0) = true then (some ([], 12)) else (iter (fun ss_13 : Int × (List Choice) => frame_OfChoices_l1 p0 ss_13.1 ss_13.2) (0, [])))))
/- crossroads/crossref.Pairs -/
noncomputable def crossref_Pairs_l1  (s1 : List UInt8) (s2 : List Choice) : Option (((List UInt8) × (List Choice)) ⊕ ((List Choice) × Bool)) :=
  (if (decide (((s1).length : Int) ≥ 2)) = true then (Option.bind (idx s1 0) fun x3 => (Option.bind (if (decide ((x3.toNat : Int) ≥ 12)) = true then (some true) else (Option.bind (idx s1 1) fun x4 => (some (decide ((x4.toNat : Int) ≥ 16))))) fun c5 => (if c5 = true then (Option.map Sum.inr (some ([], false))) else (Option.bind (idx s1 0) fun x6 => (Option.bind (idx s1 1) fun x7 => (Option.bind (app s2 [(⟨IntKind.i64.wrap (x6.toNat : Int), IntKind.i64.wrap (x7.toNat : Int)⟩ : Choice)]) fun x8 => (Option.bind (sub s1 2 ((s1).length : Int)) fun x9 => (some (.inl (x9, x8)))))))))) else (Option.map Sum.inr (some (s2, s1 == []))))
noncomputable def crossref_Pairs (p0 : List UInt8) : Option ((List Choice) × Bool) :=
  (iter (fun ss_11 : (List UInt8) × (List Choice) => crossref_Pairs_l1 ss_11.1 ss_11.2) (p0, []))
/- slices.Equal[[]crossroads/api.Choice,crossroads/api.Choice] -/
noncomputable def slices_Equal_Choice_l1 (p0 : List Choice) (p1 : List Choice) (s1 : Int) : Option (Int ⊕ Bool) :=
  (if (decide (s1 < ((p0).length : Int))) = true then (Option.bind (idx p0 s1) fun x4 => (Option.bind (idx p1 s1) fun x5 => (if (!(x4 == x5)) = true then (Option.map Sum.inr (some false)) else (some (.inl (IntKind.i64.wrap (s1 + 1))))))) else (Option.map Sum.inr (some true)))
noncomputable def slices_Equal_Choice (p0 : List Choice) (p1 : List Choice) : Option Bool :=
  (if (((p0).length : Int) != ((p1).length : Int)) = true then (some false) else (iter (fun ss_11 : Int => slices_Equal_Choice_l1 p0 p1 ss_11) 0))
/- crossroads/crosslaw.FrameChoices -/
noncomputable def crosslaw_FrameChoices_l1 (p0 : List Choice) (x2 : (List UInt8) × Int) (s14 : List UInt8) (s15 : Int) : Option (((List UInt8) × Int) ⊕ Bool) :=
  (if (decide (s15 < ((p0).length : Int))) = true then (Option.bind (idx p0 s15) fun x17 => (if ((decide (x17.Node < 0)) || ((decide (x17.Node > 11)) || ((decide (x17.Lane < 0)) || decide (x17.Lane > 15)))) = true then (Option.map Sum.inr (some ((x2.2 == 3) && x2.1 == []))) else (Option.bind (cat s14 (toStr [IntKind.u8.wrap x17.Node, IntKind.u8.wrap x17.Lane])) fun x20 => (some (.inl (x20, IntKind.i64.wrap (s15 + 1))))))) else (Option.map Sum.inr (some ((x2.2 == 0) && x2.1 == s14))))
noncomputable def crosslaw_FrameChoices_k2 (p0 : List Choice) (x2 : (List UInt8) × Int) : Option Bool :=
  (if (decide (((p0).length : Int) > 30)) = true then (some ((x2.2 == 2) && x2.1 == [])) else (iter (fun ss_33 : (List UInt8) × Int => crosslaw_FrameChoices_l1 p0 x2 ss_33.1 ss_33.2) ([], 0)))
noncomputable def crosslaw_FrameChoices (p0 : List Choice) (p1 : List UInt8) : Option Bool :=
  (Option.bind (frame_Choices p0) fun x2 => (Option.bind (frame_OfChoices p1) fun x4 => (Option.bind crosslaw_framed fun x6 => (if (!x6) = true then (some false) else (if (decide (((p1).length : Int) > 60)) = true then (if ((x4.2 != 2) || ((x4.1).length : Int) != 0) = true then (some false) else (crosslaw_FrameChoices_k2 p0 x2)) else (Option.bind (crossref_Pairs p1) fun x9 => (if (!x9.2) = true then (if ((x4.2 != 12) || ((x4.1).length : Int) != 0) = true then (some false) else (crosslaw_FrameChoices_k2 p0 x2)) else (Option.bind (if (x4.2 != 0) = true then (some true) else (Option.bind (slices_Equal_Choice x4.1 x9.1) fun x11 => (some (!x11)))) fun c12 => (if c12 = true then (some false) else (crosslaw_FrameChoices_k2 p0 x2))))))))))
/- crossroads/crosslaw.FrameBack -/
noncomputable def crosslaw_FrameBack (p0 : List Choice) : Option Bool :=
  (Option.bind (frame_Choices p0) fun x2 => (Option.bind crosslaw_framed fun x3 => (if ((!x3) || x2.2 != 0) = true then (Option.bind crosslaw_framed fun x6 => (some x6)) else (Option.bind (frame_OfChoices x2.1) fun x8 => (Option.bind (if (x8.2 == 0) = true then (Option.bind (slices_Equal_Choice p0 x8.1) fun x9 => (some x9)) else (some false)) fun c10 => (some c10))))))
/- slices.Clone[[]string,string] -/
def slices_Clone_string (p0 : List (List UInt8)) : Option (List (List UInt8)) := app [] p0
/- slices.Clone[[]crossroads/api.Write,crossroads/api.Write] -/
def slices_Clone_Write (p0 : List Write) : Option (List Write) := app [] p0
/- crossroads/disk.Check -/
noncomputable def disk_Check_l1 (p0 : Disk) (s5 : Int) : Option (Int ⊕ Int) :=
  (if (decide (s5 < ((p0.Wait).length : Int))) = true then (Option.bind (idx p0.Wait s5) fun x7 => (if ((decide (x7.At < 0)) || decide (x7.At ≥ 200)) = true then (Option.map Sum.inr (some 3)) else (if (decide (((x7.Bytes).length : Int) > 64)) = true then (Option.map Sum.inr (some 2)) else (some (.inl (IntKind.i64.wrap (s5 + 1))))))) else (Option.map Sum.inr (some 0)))
noncomputable def disk_Check_l2 (p0 : Disk) (s2 : Int) : Option (Int ⊕ Int) :=
  (if (decide (s2 < ((p0.Sectors).length : Int))) = true then (Option.bind (idx p0.Sectors s2) fun x4 => (if (decide (((x4).length : Int) > 64)) = true then (Option.map Sum.inr (some 2)) else (some (.inl (IntKind.i64.wrap (s2 + 1)))))) else (Option.map Sum.inr (iter (fun ss_29 : Int => disk_Check_l1 p0 ss_29) 0)))
noncomputable def disk_Check (p0 : Disk) : Option Int :=
  (if ((decide (((p0.Sectors).length : Int) > 200)) || decide (((p0.Wait).length : Int) > 300)) = true then (some 2) else (iter (fun ss_10 : Int => disk_Check_l2 p0 ss_10) 0))
/- crossroads/disk.Write -/
noncomputable def disk_Write (p0 : Disk) (p1 : Int) (p2 : List UInt8) : Option (Disk × Int) :=
  (Option.bind (disk_Check p0) fun x2 => (if (x2 != 0) = true then (some ((⟨[], []⟩ : Disk), x2)) else (if ((decide (p1 < 0)) || decide (p1 ≥ 200)) = true then (some ((⟨[], []⟩ : Disk), 3)) else (if (decide (((p2).length : Int) > 64)) = true then (some ((⟨[], []⟩ : Disk), 2)) else (if (((p0.Wait).length : Int) == 300) = true then (some ((⟨[], []⟩ : Disk), 8)) else (Option.bind (slices_Clone_string p0.Sectors) fun x7 => (Option.bind (slices_Clone_Write p0.Wait) fun x8 => (Option.bind (app x8 [(⟨p1, p2⟩ : Write)]) fun x9 => (some ((⟨x7, x9⟩ : Disk), 0))))))))))
/- crossroads/disk.Read -/
noncomputable def disk_Read_l1 (p0 : Disk) (p1 : Int) (s6 : List UInt8) (s7 : Int) : Option (((List UInt8) × Int) ⊕ ((List UInt8) × Int)) :=
  (if (decide (s7 < ((p0.Wait).length : Int))) = true then (Option.bind (idx p0.Wait s7) fun x9 => (if (x9.At == p1) = true then (some (.inl (x9.Bytes, IntKind.i64.wrap (s7 + 1)))) else (some (.inl (s6, IntKind.i64.wrap (s7 + 1)))))) else (Option.map Sum.inr (some (s6, 0))))
noncomputable def disk_Read_k2 (p0 : Disk) (p1 : Int) (z5 : List UInt8) : Option ((List UInt8) × Int) :=
  (iter (fun ss_12 : (List UInt8) × Int => disk_Read_l1 p0 p1 ss_12.1 ss_12.2) (z5, 0))
noncomputable def disk_Read (p0 : Disk) (p1 : Int) : Option ((List UInt8) × Int) :=
  (Option.bind (disk_Check p0) fun x2 => (if (x2 != 0) = true then (some ([], x2)) else (if ((decide (p1 < 0)) || decide (p1 ≥ 200)) = true then (some ([], 3)) else (if (decide (p1 < ((p0.Sectors).length : Int))) = true then (Option.bind (idx p0.Sectors p1) fun x4 => (disk_Read_k2 p0 p1 x4)) else (disk_Read_k2 p0 p1 [])))))
/- crossroads/crossref.CheckDisk -/
noncomputable def crossref_CheckDisk_l1 (p0 : Disk) (s5 : Int) : Option (Int ⊕ Int) :=
  (if (decide (s5 < ((p0.Wait).length : Int))) = true then (Option.bind (idx p0.Wait s5) fun x7 => (if ((decide (x7.At < 0)) || decide (x7.At > 199)) = true then (Option.map Sum.inr (some 3)) else (if (decide (((x7.Bytes).length : Int) > 64)) = true then (Option.map Sum.inr (some 2)) else (some (.inl (IntKind.i64.wrap (s5 + 1))))))) else (Option.map Sum.inr (some 0)))
noncomputable def crossref_CheckDisk_l2 (p0 : Disk) (s2 : Int) : Option (Int ⊕ Int) :=
  (if (decide (s2 < ((p0.Sectors).length : Int))) = true then (Option.bind (idx p0.Sectors s2) fun x4 => (if (decide (((x4).length : Int) > 64)) = true then (Option.map Sum.inr (some 2)) else (some (.inl (IntKind.i64.wrap (s2 + 1)))))) else (Option.map Sum.inr (iter (fun ss_29 : Int => crossref_CheckDisk_l1 p0 ss_29) 0)))
noncomputable def crossref_CheckDisk (p0 : Disk) : Option Int :=
  (if ((decide (((p0.Sectors).length : Int) > 200)) || decide (((p0.Wait).length : Int) > 300)) = true then (some 2) else (iter (fun ss_10 : Int => crossref_CheckDisk_l2 p0 ss_10) 0))
/- crossroads/disk.put -/
noncomputable def disk_put_x866e_l1 (s1 : Int) (x4 : Write) (s5 : List (List UInt8)) : Option ((List (List UInt8)) ⊕ ((Int × (List (List UInt8))) ⊕ (List (List UInt8)))) :=
  (if (decide (((s5).length : Int) ≤ x4.At)) = true then (Option.bind (app s5 [[]]) fun x6 => (some (.inl x6))) else (Option.map Sum.inr (Option.bind (ixN s5 x4.At) fun x7 => (Option.bind ((s5)[x7]?) fun x8 => (some (.inl (IntKind.i64.wrap (s1 + 1), (List.set s5 x7 x4.Bytes))))))))
noncomputable def disk_put_x866e_l2 (p0 : List Write) (s1 : Int) (s2 : List (List UInt8)) : Option ((Int × (List (List UInt8))) ⊕ (List (List UInt8))) :=
  (if (decide (s1 < ((p0).length : Int))) = true then (Option.bind (idx p0 s1) fun x4 => (iter (fun ss_20 : List (List UInt8) => disk_put_x866e_l1 s1 x4 ss_20) s2)) else (Option.map Sum.inr (some s2)))
noncomputable def disk_put_x866e (p0 : List Write) (p1 : List (List UInt8)) : Option (List (List UInt8)) :=
  (iter (fun ss_15 : Int × (List (List UInt8)) => disk_put_x866e_l2 p0 ss_15.1 ss_15.2) (0, p1))
/- crossroads/disk.Cut -/
noncomputable def disk_Cut (p0 : Disk) (p1 : Int) : Option (Disk × Int) :=
  (Option.bind (disk_Check p0) fun x2 => (if (x2 != 0) = true then (some ((⟨[], []⟩ : Disk), x2)) else (if ((decide (p1 < 0)) || decide (p1 > ((p0.Wait).length : Int))) = true then (some ((⟨[], []⟩ : Disk), 3)) else (Option.bind (slices_Clone_string p0.Sectors) fun x7 => (Option.bind (sub p0.Wait 0 p1) fun x8 => (Option.bind (disk_put_x866e x8 x7) fun x9 => (some ((⟨x9, []⟩ : Disk), 0))))))))
/- crossroads/crosslaw.disked -/
noncomputable def crosslaw_disked : Option Bool :=
  (Option.bind (disk_Write (⟨[], []⟩ : Disk) (1 : Int) ([97] : List UInt8)) fun x2 => (Option.bind (disk_Write x2.1 (0 : Int) ([98] : List UInt8)) fun x4 => (Option.bind (disk_Read x4.1 (0 : Int)) fun x6 => (Option.bind (disk_Cut x4.1 (1 : Int)) fun x8 => (Option.bind (if (x2.2 == 0) = true then (if (x4.2 == 0) = true then (if (x6.2 == 0) = true then (if (x8.2 == 0) = true then (if (x6.1 == [98]) = true then (Option.bind (slices_Equal_string x8.1.Sectors ([[], [97]] : List (List UInt8))) fun x9 => (if x9 = true then (some (((x8.1.Wait).length : Int) == 0)) else (some false))) else (some false)) else (some false)) else (some false)) else (some false)) else (some false)) fun c10 => (some c10))))))
/- slices.Equal[[]crossroads/api.Write,crossroads/api.Write] -/
noncomputable def slices_Equal_Write_l1 (p0 : List Write) (p1 : List Write) (s1 : Int) : Option (Int ⊕ Bool) :=
  (if (decide (s1 < ((p0).length : Int))) = true then (Option.bind (idx p0 s1) fun x4 => (Option.bind (idx p1 s1) fun x5 => (if (!(x4 == x5)) = true then (Option.map Sum.inr (some false)) else (some (.inl (IntKind.i64.wrap (s1 + 1))))))) else (Option.map Sum.inr (some true)))
noncomputable def slices_Equal_Write (p0 : List Write) (p1 : List Write) : Option Bool :=
  (if (((p0).length : Int) != ((p1).length : Int)) = true then (some false) else (iter (fun ss_11 : Int => slices_Equal_Write_l1 p0 p1 ss_11) 0))
/- crossroads/crossref.SameDisk -/
noncomputable def crossref_SameDisk (p0 : Disk) (p1 : Disk) : Option Bool :=
  (Option.bind (slices_Equal_string p0.Sectors p1.Sectors) fun x1 => (Option.bind (if x1 = true then (Option.bind (slices_Equal_Write p0.Wait p1.Wait) fun x2 => (some x2)) else (some false)) fun c3 => (some c3)))
/- crossroads/crosslaw.noDisk -/
noncomputable def crosslaw_noDisk (p0 : Disk) : Option Bool :=
  (Option.bind (crossref_SameDisk p0 (⟨[], []⟩ : Disk)) fun x2 => (some x2))
/- crossroads/disk.Flush -/
noncomputable def disk_Flush (p0 : Disk) : Option (Disk × Int) :=
  (Option.bind (disk_Cut p0 ((p0.Wait).length : Int)) fun x2 => (some (x2.1, x2.2)))
/- crossroads/crosslaw.DiskSeen -/
noncomputable def crosslaw_DiskSeen (p0 : Disk) (p1 : Int) (p2 : Int) : Option Bool :=
  (Option.bind (disk_Read p0 p1) fun x2 => (Option.bind (disk_Flush p0) fun x4 => (Option.bind crosslaw_disked fun x5 => (if ((!x5) || ((x2.2 != 0) || x4.2 != 0)) = true then (Option.bind crosslaw_disked fun x8 => (some x8)) else (Option.bind (disk_Read x4.1 p1) fun x10 => (if ((x10.2 != 0) || !(x2.1 == x10.1)) = true then (some false) else (Option.bind (crossref_At p2 (IntKind.i64.wrap (((p0.Wait).length : Int) + 1))) fun x13 => (Option.bind (disk_Cut p0 x13) fun x15 => (Option.bind (sub p0.Wait x13 ((p0.Wait).length : Int)) fun x18 => (Option.bind (disk_Flush (⟨x15.1.Sectors, x18⟩ : Disk)) fun x19 => (Option.bind (if (x15.2 == 0) = true then (if (x19.2 == 0) = true then (Option.bind (slices_Equal_string x19.1.Sectors x4.1.Sectors) fun x20 => (some x20)) else (some false)) else (some false)) fun c21 => (some c21))))))))))))
/- crossroads/disk.put -/
noncomputable def disk_put_x7df1_l1 (s1 : Int) (x6 : Write) (s7 : List (List UInt8)) : Option ((List (List UInt8)) ⊕ ((Int × (List (List UInt8))) ⊕ (List (List UInt8)))) :=
  (if (decide (((s7).length : Int) ≤ x6.At)) = true then (Option.bind (app s7 [[]]) fun x8 => (some (.inl x8))) else (Option.map Sum.inr (Option.bind (ixN s7 x6.At) fun x9 => (Option.bind ((s7)[x9]?) fun x10 => (some (.inl (IntKind.i64.wrap (s1 + 1), (List.set s7 x9 x6.Bytes))))))))
noncomputable def disk_put_x7df1_l2 (p1 : List Write) (s1 : Int) (s2 : List (List UInt8)) : Option ((Int × (List (List UInt8))) ⊕ (List (List UInt8))) :=
  (if (decide (s1 < ((p1).length : Int))) = true then (Option.bind (ixN p1 s1) fun x5 => (Option.bind ((p1)[x5]?) fun x6 => (iter (fun ss_20 : List (List UInt8) => disk_put_x7df1_l1 s1 x6 ss_20) s2))) else (Option.map Sum.inr (some s2)))
noncomputable def disk_put_x7df1 (p0 : List (List UInt8)) (p1 : List Write) : Option (List (List UInt8)) :=
  (iter (fun ss_15 : Int × (List (List UInt8)) => disk_put_x7df1_l2 p1 ss_15.1 ss_15.2) (0, p0))
/- crossroads/disk.Some -/
noncomputable def disk_Some_l1 (p0 : Disk) (p1 : List Int) (s5 : Int) (s6 : Int) (s7 : List (List UInt8)) : Option ((Int × Int × (List (List UInt8))) ⊕ (Disk × Int)) :=
  (if (decide (s6 < ((p1).length : Int))) = true then (Option.bind (idx p1 s6) fun x9 => (if ((decide (x9 < 0)) || decide (x9 ≥ ((p0.Wait).length : Int))) = true then (Option.map Sum.inr (some ((⟨[], []⟩ : Disk), 3))) else (if (decide (x9 ≤ s5)) = true then (Option.map Sum.inr (some ((⟨[], []⟩ : Disk), 4))) else (Option.bind (idx p0.Wait x9) fun x11 => (Option.bind (disk_put_x7df1 s7 ([x11] : List Write)) fun x12 => (some (.inl (x9, IntKind.i64.wrap (s6 + 1), x12)))))))) else (Option.map Sum.inr (some ((⟨s7, []⟩ : Disk), 0))))
noncomputable def disk_Some (p0 : Disk) (p1 : List Int) : Option (Disk × Int) :=
  (Option.bind (disk_Check p0) fun x2 => (if (x2 != 0) = true then (some ((⟨[], []⟩ : Disk), x2)) else (Option.bind (slices_Clone_string p0.Sectors) fun x4 => (iter (fun ss_15 : Int × Int × (List (List UInt8)) => disk_Some_l1 p0 p1 ss_15.1 ss_15.2.1 ss_15.2.2) ((-1), 0, x4)))))
/- crossroads/crosslaw.DiskSome -/
noncomputable def crosslaw_DiskSome_l1 (p0 : Disk) (p1 : Int) (x2 : Disk × Int) (s7 : Int) (s8 : List Int) : Option ((Int × (List Int)) ⊕ Bool) :=
  (if (decide (s7 < ((p0.Wait).length : Int))) = true then (Option.bind (app s8 [s7]) fun x9 => (some (.inl (IntKind.i64.wrap (s7 + 1), x9)))) else (Option.map Sum.inr (Option.bind (disk_Some p0 s8) fun x13 => (Option.bind (crossref_At p1 (IntKind.i64.wrap (((p0.Wait).length : Int) + 1))) fun x15 => (Option.bind (sub s8 0 x15) fun x18 => (Option.bind (disk_Some p0 x18) fun x19 => (Option.bind (disk_Cut p0 x15) fun x21 => (Option.bind (disk_Some p0 ([] : List Int)) fun x23 => (Option.bind (if (x13.2 == 0) = true then (if (x19.2 == 0) = true then (if (x21.2 == 0) = true then (if (x23.2 == 0) = true then (Option.bind (crossref_SameDisk x13.1 x2.1) fun x24 => (if x24 = true then (Option.bind (crossref_SameDisk x19.1 x21.1) fun x25 => (if x25 = true then (Option.bind (slices_Equal_string x23.1.Sectors p0.Sectors) fun x26 => (some x26)) else (some false))) else (some false))) else (some false)) else (some false)) else (some false)) else (some false)) fun c27 => (some c27))))))))))
noncomputable def crosslaw_DiskSome (p0 : Disk) (p1 : Int) : Option Bool :=
  (Option.bind (disk_Flush p0) fun x2 => (Option.bind crosslaw_disked fun x3 => (if ((!x3) || x2.2 != 0) = true then (Option.bind crosslaw_disked fun x6 => (some x6)) else (iter (fun ss_6 : Int × (List Int) => crosslaw_DiskSome_l1 p0 p1 x2 ss_6.1 ss_6.2) (0, [])))))
end Go.Proofs.Ytpndpdbabblphaa
