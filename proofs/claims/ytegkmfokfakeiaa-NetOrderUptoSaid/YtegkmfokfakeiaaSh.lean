/-
  What the functions compute, as plain functions. Printed by a program of ours (wip/gen.py).
-/
import Derived.Test.YtegkmfokfakeiaaData
import Derived.Test.YtegkmfokfakeiaaPz
namespace Go.Proofs.Ytegkmfokfakeiaa
set_option linter.unusedVariables false
set_option maxRecDepth 100000
/- crossroads/disk.Check -/
noncomputable def disk_Check_l1 (p0 : Disk) (s5 : Int) : Option (Int ⊕ Int) :=
  (if (decide (s5 < ((p0.Wait).length : Int))) = true then (Option.bind (idx p0.Wait s5) fun x7 => (if ((decide (x7.At < 0)) || decide (x7.At ≥ 200)) = true then (Option.map Sum.inr (some 3)) else (if (decide (((x7.Bytes).length : Int) > 64)) = true then (Option.map Sum.inr (some 2)) else (some (.inl (IntKind.i64.wrap (s5 + 1))))))) else (Option.map Sum.inr (some 0)))
noncomputable def disk_Check_l2 (p0 : Disk) (s2 : Int) : Option (Int ⊕ Int) :=
  (if (decide (s2 < ((p0.Sectors).length : Int))) = true then (Option.bind (idx p0.Sectors s2) fun x4 => (if (decide (((x4).length : Int) > 64)) = true then (Option.map Sum.inr (some 2)) else (some (.inl (IntKind.i64.wrap (s2 + 1)))))) else (Option.map Sum.inr (iter (fun ss_29 : Int => disk_Check_l1 p0 ss_29) 0)))
noncomputable def disk_Check (p0 : Disk) : Option Int :=
  (if ((decide (((p0.Sectors).length : Int) > 200)) || decide (((p0.Wait).length : Int) > 300)) = true then (some 2) else (iter (fun ss_10 : Int => disk_Check_l2 p0 ss_10) 0))
/- crossroads/frame.sum -/
noncomputable def frame_sum_l1 (s2 : Int) (s7 : Int) (s8 : Int) : Option ((Int × Int) ⊕ ((Int × Int) ⊕ Int)) :=
  (if (decide (s8 < 8)) = true then (Option.bind (shl .i64 s7 1) fun x10 => (if ((ibits .and .i64 x10 65536) != 0) = true then (some (.inl (ibits .xor .i64 x10 69665, IntKind.i64.wrap (s8 + 1)))) else (some (.inl (x10, IntKind.i64.wrap (s8 + 1)))))) else (Option.map Sum.inr (some (.inl (s7, IntKind.i64.wrap (s2 + 1))))))
noncomputable def frame_sum_l2 (p0 : List UInt8) (s1 : Int) (s2 : Int) : Option ((Int × Int) ⊕ Int) :=
  (if (decide (s2 < ((p0).length : Int))) = true then (Option.bind (idx p0 s2) fun x5 => (Option.bind (shl .i64 (IntKind.i64.wrap (x5.toNat : Int)) 8) fun x6 => (iter (fun ss_28 : Int × Int => frame_sum_l1 s2 ss_28.1 ss_28.2) (ibits .xor .i64 s1 x6, 0)))) else (Option.map Sum.inr (some s1)))
noncomputable def frame_sum (p0 : List UInt8) : Option Int :=
  (iter (fun ss_21 : Int × Int => frame_sum_l2 p0 ss_21.1 ss_21.2) (65535, 0))
/- crossroads/frame.Read -/
noncomputable def frame_Read_l1 (p0 : List UInt8) (s1 : Int) (s2 : List (List UInt8)) : Option ((Int × (List (List UInt8))) ⊕ ((List (List UInt8)) × Int × Int)) :=
  (if (decide (s1 < ((p0).length : Int))) = true then (Option.bind (sub p0 s1 ((p0).length : Int)) fun x4 => (Option.bind (idx x4 0) fun x6 => (if ((decide ((IntKind.i64.wrap (x6.toNat : Int)) < 1)) || ((decide ((IntKind.i64.wrap (x6.toNat : Int)) > 60)) || decide (((x4).length : Int) < (IntKind.i64.wrap ((IntKind.i64.wrap (x6.toNat : Int)) + 3))))) = true then (Option.map Sum.inr (some (s2, s1, 0))) else (Option.bind (sub x4 0 (IntKind.i64.wrap ((IntKind.i64.wrap (x6.toNat : Int)) + 1))) fun x10 => (Option.bind (frame_sum x10) fun x11 => (Option.bind (idx x4 (IntKind.i64.wrap ((IntKind.i64.wrap (x6.toNat : Int)) + 1))) fun x15 => (Option.bind (shl .i64 (IntKind.i64.wrap (x15.toNat : Int)) 8) fun x16 => (Option.bind (idx x4 (IntKind.i64.wrap ((IntKind.i64.wrap (x6.toNat : Int)) + 2))) fun x17 => (if ((ibits .or .i64 x16 (IntKind.i64.wrap (x17.toNat : Int))) != x11) = true then (Option.map Sum.inr (some (s2, s1, 0))) else (Option.bind (sub x4 1 (IntKind.i64.wrap ((IntKind.i64.wrap (x6.toNat : Int)) + 1))) fun x20 => (Option.bind (app s2 [x20]) fun x21 => (some (.inl (IntKind.i64.wrap (s1 + (IntKind.i64.wrap ((IntKind.i64.wrap (x6.toNat : Int)) + 3))), x21)))))))))))))) else (Option.map Sum.inr (some (s2, s1, 0))))
noncomputable def frame_Read (p0 : List UInt8) : Option ((List (List UInt8)) × Int × Int) :=
  (if (decide (((p0).length : Int) > 12800)) = true then (some ([], 0, 2)) else (iter (fun ss_13 : Int × (List (List UInt8)) => frame_Read_l1 p0 ss_13.1 ss_13.2) (0, [])))
/- crossroads/frame.OfChoices -/
noncomputable def frame_OfChoices_l1 (p0 : List UInt8) (s3 : Int) (s4 : List Choice) : Option ((Int × (List Choice)) ⊕ ((List Choice) × Int)) :=
  (if (decide (s3 < ((p0).length : Int))) = true then (Option.bind (idx p0 s3) fun x7 => (Option.bind (idx p0 (IntKind.i64.wrap (s3 + 1))) fun x8 => (if ((decide ((IntKind.i64.wrap (x7.toNat : Int)) ≥ 12)) || decide ((IntKind.i64.wrap (x8.toNat : Int)) ≥ 16)) = true then (Option.map Sum.inr (some ([], 12))) else (Option.bind (app s4 [(⟨IntKind.i64.wrap (x7.toNat : Int), IntKind.i64.wrap (x8.toNat : Int)⟩ : Choice)]) fun x10 => (some (.inl (IntKind.i64.wrap (s3 + 2), x10))))))) else (Option.map Sum.inr (some (s4, 0))))
noncomputable def frame_OfChoices (p0 : List UInt8) : Option ((List Choice) × Int) :=
  (if (decide (((p0).length : Int) > 60)) = true then (some ([], 2)) else (Option.bind (rem ((p0).length : Int) 2) fun x2 => (if (x2 != 0) = true then (some ([], 12)) else (iter (fun ss_13 : Int × (List Choice) => frame_OfChoices_l1 p0 ss_13.1 ss_13.2) (0, [])))))
/- crossroads/log.Scan$1 -/
noncomputable def log_Scan_1_x006d (p0 : Int) (p1 : List (List UInt8)) (p2 : List Write) (p3 : Int) : Option (List Choice) :=
  (if (decide (p0 ≥ ((p1).length : Int))) = true then (some []) else (Option.bind (idx p1 p0) fun x3 => (Option.bind (frame_Read x3) fun x4 => (Option.bind (if (((x4.1).length : Int) != 1) = true then (some true) else (Option.bind (idx p1 p0) fun x5 => (if (x4.2.1 != ((x5).length : Int)) = true then (some true) else (Option.bind (ixN x4.1 0) fun x6 => (Option.bind ((x4.1)[x6]?) fun x7 => (Option.bind (idx x7 0) fun x8 => (some ((IntKind.i64.wrap (x8.toNat : Int)) != p3)))))))) fun c9 => (if c9 = true then (some []) else (Option.bind (ixN x4.1 0) fun x14 => (Option.bind ((x4.1)[x14]?) fun x15 => (Option.bind (sub x15 1 ((x15).length : Int)) fun x16 => (Option.bind (frame_OfChoices x16) fun x17 => (some x17.1))))))))))
/- crossroads/log.Scan -/
noncomputable def log_Scan_l1 (p0 : Disk) (p1 : Int) (s6 : Int) (s7 : List Choice) (s8 : List Choice) : Option ((Int × (List Choice) × (List Choice)) ⊕ ((List Choice) × Int × Int)) :=
  (if (decide (((s8).length : Int) > 0)) = true then (Option.bind (app s7 s8) fun x10 => (Option.bind (log_Scan_1_x006d (IntKind.i64.wrap (120 + (IntKind.i64.wrap (s6 + 1)))) p0.Sectors p0.Wait p1) fun x11 => (some (.inl (IntKind.i64.wrap (s6 + 1), x10, x11))))) else (Option.map Sum.inr (some (s7, s6, 0))))
noncomputable def log_Scan (p0 : Disk) (p1 : Int) : Option ((List Choice) × Int × Int) :=
  (Option.bind (disk_Check p0) fun x2 => (if (x2 != 0) = true then (some ([], 0, x2)) else (if ((decide (p1 < 0)) || decide (p1 > 200)) = true then (some ([], 0, 3)) else (Option.bind (log_Scan_1_x006d (120 : Int) p0.Sectors p0.Wait p1) fun x5 => (iter (fun ss_8 : Int × (List Choice) × (List Choice) => log_Scan_l1 p0 p1 ss_8.1 ss_8.2.1 ss_8.2.2) (0, [], x5))))))
/- crossroads/crossref.CheckDisk -/
noncomputable def crossref_CheckDisk_l1 (p0 : Disk) (s5 : Int) : Option (Int ⊕ Int) :=
  (if (decide (s5 < ((p0.Wait).length : Int))) = true then (Option.bind (idx p0.Wait s5) fun x7 => (if ((decide (x7.At < 0)) || decide (x7.At > 199)) = true then (Option.map Sum.inr (some 3)) else (if (decide (((x7.Bytes).length : Int) > 64)) = true then (Option.map Sum.inr (some 2)) else (some (.inl (IntKind.i64.wrap (s5 + 1))))))) else (Option.map Sum.inr (some 0)))
noncomputable def crossref_CheckDisk_l2 (p0 : Disk) (s2 : Int) : Option (Int ⊕ Int) :=
  (if (decide (s2 < ((p0.Sectors).length : Int))) = true then (Option.bind (idx p0.Sectors s2) fun x4 => (if (decide (((x4).length : Int) > 64)) = true then (Option.map Sum.inr (some 2)) else (some (.inl (IntKind.i64.wrap (s2 + 1)))))) else (Option.map Sum.inr (iter (fun ss_29 : Int => crossref_CheckDisk_l1 p0 ss_29) 0)))
noncomputable def crossref_CheckDisk (p0 : Disk) : Option Int :=
  (if ((decide (((p0.Sectors).length : Int) > 200)) || decide (((p0.Wait).length : Int) > 300)) = true then (some 2) else (iter (fun ss_10 : Int => crossref_CheckDisk_l2 p0 ss_10) 0))
/- crossroads/frame.Choices -/
noncomputable def frame_Choices_l1 (p0 : List Choice) (s1 : Int) (s2 : List Int) : Option ((Int × (List Int)) ⊕ ((List UInt8) × Int)) :=
  (if (decide (s1 < ((p0).length : Int))) = true then (Option.bind (idx p0 s1) fun x4 => (if ((decide (x4.Node < 0)) || ((decide (x4.Node ≥ 12)) || ((decide (x4.Lane < 0)) || decide (x4.Lane ≥ 16)))) = true then (Option.map Sum.inr (some ([], 3))) else (Option.bind (app s2 [IntKind.u8.wrap x4.Node, IntKind.u8.wrap x4.Lane]) fun x6 => (some (.inl (IntKind.i64.wrap (s1 + 1), x6)))))) else (Option.map Sum.inr (some (toStr s2, 0))))
noncomputable def frame_Choices (p0 : List Choice) : Option ((List UInt8) × Int) :=
  (if (decide (((p0).length : Int) > 30)) = true then (some ([], 2)) else (iter (fun ss_15 : Int × (List Int) => frame_Choices_l1 p0 ss_15.1 ss_15.2) (0, [])))
/- crossroads/frame.Put -/
noncomputable def frame_Put (p0 : List UInt8) : Option ((List UInt8) × Int) :=
  (if (p0 == []) = true then (some ([], 4)) else (if (decide (((p0).length : Int) > 60)) = true then (some ([], 2)) else (Option.bind (cat (toStr [IntKind.u8.wrap ((p0).length : Int)]) p0) fun x3 => (Option.bind (frame_sum x3) fun x4 => (Option.bind (cat (toStr [IntKind.u8.wrap ((p0).length : Int)]) p0) fun x8 => (Option.bind (shr .i64 x4 8) fun x9 => (Option.bind (cat x8 (toStr [IntKind.u8.wrap x9, IntKind.u8.wrap x4])) fun x10 => (some (x10, 0)))))))))
/- slices.Clone[[]string,string] -/
def slices_Clone_string (p0 : List (List UInt8)) : Option (List (List UInt8)) := app [] p0
/- slices.Clone[[]crossroads/api.Write,crossroads/api.Write] -/
def slices_Clone_Write (p0 : List Write) : Option (List Write) := app [] p0
/- crossroads/disk.Write -/
noncomputable def disk_Write (p0 : Disk) (p1 : Int) (p2 : List UInt8) : Option (Disk × Int) :=
  (Option.bind (disk_Check p0) fun x2 => (if (x2 != 0) = true then (some ((⟨[], []⟩ : Disk), x2)) else (if ((decide (p1 < 0)) || decide (p1 ≥ 200)) = true then (some ((⟨[], []⟩ : Disk), 3)) else (if (decide (((p2).length : Int) > 64)) = true then (some ((⟨[], []⟩ : Disk), 2)) else (if (((p0.Wait).length : Int) == 300) = true then (some ((⟨[], []⟩ : Disk), 8)) else (Option.bind (slices_Clone_string p0.Sectors) fun x7 => (Option.bind (slices_Clone_Write p0.Wait) fun x8 => (Option.bind (app x8 [(⟨p1, p2⟩ : Write)]) fun x9 => (some ((⟨x7, x9⟩ : Disk), 0))))))))))
/- crossroads/log.Append -/
noncomputable def log_Append_l1 (p1 : Int) (s4 : Int) (s5 : List Choice) (s6 : List (List UInt8)) (s7 : List Write) : Option ((Int × (List Choice) × (List (List UInt8)) × (List Write)) ⊕ (Disk × Int × Int)) :=
  (if (decide (((s5).length : Int) > 0)) = true then (Option.bind (sub s5 0 (if ((s5).length : Int) < 29 then ((s5).length : Int) else 29)) fun x10 => (Option.bind (frame_Choices x10) fun x11 => (if (x11.2 != 0) = true then (Option.map Sum.inr (some ((⟨[], []⟩ : Disk), 0, x11.2))) else (Option.bind (cat (toStr [IntKind.u8.wrap p1]) x11.1) fun x14 => (Option.bind (frame_Put x14) fun x15 => (if ((IntKind.i64.wrap (120 + s4)) == 200) = true then (Option.map Sum.inr (some ((⟨[], []⟩ : Disk), 0, 8))) else (Option.bind (disk_Write (⟨s6, s7⟩ : Disk) (IntKind.i64.wrap (120 + s4)) x15.1) fun x17 => (if (x17.2 != 0) = true then (Option.map Sum.inr (some ((⟨[], []⟩ : Disk), 0, x17.2))) else (Option.bind (sub s5 (if ((s5).length : Int) < 29 then ((s5).length : Int) else 29) ((s5).length : Int)) fun x18 => (some (.inl (IntKind.i64.wrap (s4 + 1), x18, x17.1.Sectors, x17.1.Wait)))))))))))) else (Option.map Sum.inr (some ((⟨s6, s7⟩ : Disk), s4, 0))))
noncomputable def log_Append (p0 : Disk) (p1 : Int) (p2 : Int) (p3 : List Choice) : Option (Disk × Int × Int) :=
  (Option.bind (disk_Check p0) fun x2 => (if (x2 != 0) = true then (some ((⟨[], []⟩ : Disk), 0, x2)) else (if ((decide (p1 < 0)) || ((decide (p1 > 200)) || ((decide (p2 < 0)) || decide (p2 > 80)))) = true then (some ((⟨[], []⟩ : Disk), 0, 3)) else (iter (fun ss_22 : Int × (List Choice) × (List (List UInt8)) × (List Write) => log_Append_l1 p1 ss_22.1 ss_22.2.1 ss_22.2.2.1 ss_22.2.2.2) (p2, p3, p0.Sectors, p0.Wait)))))
/- crossroads/disk.put -/
noncomputable def disk_put_x866e_l1 (s1 : Int) (x4 : Write) (s5 : List (List UInt8)) : Option ((List (List UInt8)) ⊕ ((Int × (List (List UInt8))) ⊕ (List (List UInt8)))) :=
  (if (decide (((s5).length : Int) ≤ x4.At)) = true then (Option.bind (app s5 [[]]) fun x6 => (some (.inl x6))) else (Option.map Sum.inr (Option.bind (ixN s5 x4.At) fun x7 => (Option.bind ((s5)[x7]?) fun x8 => (some (.inl (IntKind.i64.wrap (s1 + 1), (List.set s5 x7 x4.Bytes))))))))
noncomputable def disk_put_x866e_l2 (p0 : List Write) (s1 : Int) (s2 : List (List UInt8)) : Option ((Int × (List (List UInt8))) ⊕ (List (List UInt8))) :=
  (if (decide (s1 < ((p0).length : Int))) = true then (Option.bind (idx p0 s1) fun x4 => (iter (fun ss_20 : List (List UInt8) => disk_put_x866e_l1 s1 x4 ss_20) s2)) else (Option.map Sum.inr (some s2)))
noncomputable def disk_put_x866e (p0 : List Write) (p1 : List (List UInt8)) : Option (List (List UInt8)) :=
  (iter (fun ss_15 : Int × (List (List UInt8)) => disk_put_x866e_l2 p0 ss_15.1 ss_15.2) (0, p1))
/- crossroads/disk.Cut -/
noncomputable def disk_Cut (p0 : Disk) (p1 : Int) : Option (Disk × Int) :=
  (Option.bind (disk_Check p0) fun x2 => (if (x2 != 0) = true then (some ((⟨[], []⟩ : Disk), x2)) else (if ((decide (p1 < 0)) || decide (p1 > ((p0.Wait).length : Int))) = true then (some ((⟨[], []⟩ : Disk), 3)) else (Option.bind (slices_Clone_string p0.Sectors) fun x7 => (Option.bind (sub p0.Wait 0 p1) fun x8 => (Option.bind (disk_put_x866e x8 x7) fun x9 => (some ((⟨x9, []⟩ : Disk), 0))))))))
/- crossroads/disk.Flush -/
noncomputable def disk_Flush (p0 : Disk) : Option (Disk × Int) :=
  (Option.bind (disk_Cut p0 ((p0.Wait).length : Int)) fun x2 => (some (x2.1, x2.2)))
/- slices.Equal[[]crossroads/api.Choice,crossroads/api.Choice] -/
noncomputable def slices_Equal_Choice_l1 (p0 : List Choice) (p1 : List Choice) (s1 : Int) : Option (Int ⊕ Bool) :=
  (if (decide (s1 < ((p0).length : Int))) = true then (Option.bind (idx p0 s1) fun x4 => (Option.bind (idx p1 s1) fun x5 => (if (!(x4 == x5)) = true then (Option.map Sum.inr (some false)) else (some (.inl (IntKind.i64.wrap (s1 + 1))))))) else (Option.map Sum.inr (some true)))
noncomputable def slices_Equal_Choice (p0 : List Choice) (p1 : List Choice) : Option Bool :=
  (if (((p0).length : Int) != ((p1).length : Int)) = true then (some false) else (iter (fun ss_11 : Int => slices_Equal_Choice_l1 p0 p1 ss_11) 0))
/- crossroads/crosslaw.logged -/
noncomputable def crosslaw_logged : Option Bool :=
  (Option.bind (log_Append (⟨[], []⟩ : Disk) (3 : Int) (0 : Int) ([(⟨2, 1⟩ : Choice)] : List Choice)) fun x4 => (Option.bind (disk_Flush x4.1) fun x6 => (Option.bind (log_Scan x6.1 (3 : Int)) fun x8 => (Option.bind (if (x4.2.2 == 0) = true then (if (x6.2 == 0) = true then (if (x8.2.2 == 0) = true then (if (x4.2.1 == 1) = true then (if (x8.2.1 == 1) = true then (Option.bind (slices_Equal_Choice x8.1 ([(⟨2, 1⟩ : Choice)] : List Choice)) fun x9 => (some x9)) else (some false)) else (some false)) else (some false)) else (some false)) else (some false)) fun c10 => (some c10)))))
/- crossroads/crossref.SumOf -/
noncomputable def crossref_SumOf_l1 (p0 : List UInt8) (s3 : Int) (s5 : Int) (s6 : List Int) : Option ((Int × (List Int)) ⊕ ((Int × (List Int)) ⊕ Int)) :=
  (if (decide (s5 ≥ 0)) = true then (Option.bind (idx p0 s3) fun x7 => (Option.bind (shr .u8 (x7.toNat : Int) s5) fun x8 => (Option.bind (app s6 [ibits .and .u8 x8 1]) fun x9 => (some (.inl (IntKind.i64.wrap (s5 - 1), x9)))))) else (Option.map Sum.inr (some (.inl (IntKind.i64.wrap (s3 + 1), s6)))))
noncomputable def crossref_SumOf_l2 (s18 : Int) (s24 : Int) (s25 : List Int) : Option ((Int × (List Int)) ⊕ ((Int × (List Int)) ⊕ Int)) :=
  (if (decide (s24 < (([1, 0, 0, 0, 1, 0, 0, 0, 0, 0, 0, 1, 0, 0, 0, 0, 1]).length : Int))) = true then (Option.bind (ixN [1, 0, 0, 0, 1, 0, 0, 0, 0, 0, 0, 1, 0, 0, 0, 0, 1] s24) fun x28 => (Option.bind (([1, 0, 0, 0, 1, 0, 0, 0, 0, 0, 0, 1, 0, 0, 0, 0, 1])[x28]?) fun x29 => (Option.bind (ixN s25 (IntKind.i64.wrap (s18 + s24))) fun x30 => (Option.bind ((s25)[x30]?) fun x31 => (Option.bind (ixN s25 (IntKind.i64.wrap (s18 + s24))) fun x32 => (Option.bind ((s25)[x32]?) fun x33 => (some (.inl (IntKind.i64.wrap (s24 + 1), (List.set s25 x32 (ibits .xor .u8 x31 x29))))))))))) else (Option.map Sum.inr (some (.inl (IntKind.i64.wrap (s18 + 1), s25)))))
noncomputable def crossref_SumOf_l3 (x35 : List Int) (s36 : Int) (s37 : Int) : Option ((Int × Int) ⊕ Int) :=
  (if (decide (s37 < ((x35).length : Int))) = true then (Option.bind (idx x35 s37) fun x39 => (some (.inl (IntKind.i64.wrap ((IntKind.i64.wrap (2 * s36)) + (IntKind.i64.wrap x39)), IntKind.i64.wrap (s37 + 1))))) else (Option.map Sum.inr (some s36)))
noncomputable def crossref_SumOf_l4  (s18 : Int) (s19 : List Int) : Option ((Int × (List Int)) ⊕ Int) :=
  (if (decide ((IntKind.i64.wrap (s18 + 16)) < ((s19).length : Int))) = true then (Option.bind (ixN s19 s18) fun x22 => (Option.bind ((s19)[x22]?) fun x23 => (if (x23 == 1) = true then (iter (fun ss_53 : Int × (List Int) => crossref_SumOf_l2 s18 ss_53.1 ss_53.2) (0, s19)) else (some (.inl (IntKind.i64.wrap (s18 + 1), s19)))))) else (Option.map Sum.inr (Option.bind (sub s19 (IntKind.i64.wrap (((s19).length : Int) - 16)) ((s19).length : Int)) fun x35 => (iter (fun ss_60 : Int × Int => crossref_SumOf_l3 x35 ss_60.1 ss_60.2) (0, 0)))))
noncomputable def crossref_SumOf_l5  (s12 : Int) (s13 : List Int) : Option ((Int × (List Int)) ⊕ Int) :=
  (if (decide (s12 < 16)) = true then (Option.bind (ixN s13 s12) fun x14 => (Option.bind ((s13)[x14]?) fun x15 => (Option.bind (ixN s13 s12) fun x16 => (Option.bind ((s13)[x16]?) fun x17 => (some (.inl (IntKind.i64.wrap (s12 + 1), (List.set s13 x16 (ibits .xor .u8 x15 1))))))))) else (Option.map Sum.inr (iter (fun ss_47 : Int × (List Int) => crossref_SumOf_l4 ss_47.1 ss_47.2) (0, s13))))
noncomputable def crossref_SumOf_l6 (p0 : List UInt8) (s3 : Int) (s4 : List Int) : Option ((Int × (List Int)) ⊕ Int) :=
  (if (decide (s3 < ((p0).length : Int))) = true then (iter (fun ss_20 : Int × (List Int) => crossref_SumOf_l1 p0 s3 ss_20.1 ss_20.2) (7, s4)) else (Option.map Sum.inr (Option.bind (appz s4 16 0) fun x11 => (iter (fun ss_27 : Int × (List Int) => crossref_SumOf_l5 ss_27.1 ss_27.2) (0, x11)))))
noncomputable def crossref_SumOf (p0 : List UInt8) : Option Int :=
  (Option.bind (mk0 (IntKind.i64.wrap ((IntKind.i64.wrap (8 * ((p0).length : Int))) + 16))) fun x2 => (iter (fun ss_15 : Int × (List Int) => crossref_SumOf_l6 p0 ss_15.1 ss_15.2) (0, x2)))
/- crossroads/crossref.Framed -/
noncomputable def crossref_Framed (p0 : List UInt8) : Option (List UInt8) :=
  (Option.bind (cat (toStr [IntKind.u8.wrap ((p0).length : Int)]) p0) fun x2 => (Option.bind (crossref_SumOf x2) fun x4 => (Option.bind (quo .i64 x4 256) fun x8 => (Option.bind (rem x4 256) fun x9 => (Option.bind (cat x2 (toStr [IntKind.u8.wrap x8, IntKind.u8.wrap x9])) fun x10 => (some x10))))))
/- crossroads/crossref.Unframe -/
noncomputable def crossref_Unframe_l1 (p0 : List UInt8) (s1 : Int) (s2 : List (List UInt8)) : Option ((Int × (List (List UInt8))) ⊕ ((List (List UInt8)) × Int)) :=
  (Option.bind (sub p0 s1 ((p0).length : Int)) fun x4 => (if (decide (((x4).length : Int) < 4)) = true then (Option.map Sum.inr (some (s2, s1))) else (Option.bind (idx x4 0) fun x6 => (Option.bind (if (decide ((IntKind.i64.wrap (x6.toNat : Int)) < 1)) = true then (some true) else (if (decide ((IntKind.i64.wrap (x6.toNat : Int)) > 60)) = true then (some true) else (if (decide ((IntKind.i64.wrap ((IntKind.i64.wrap (x6.toNat : Int)) + 3)) > ((x4).length : Int))) = true then (some true) else (Option.bind (sub x4 1 (IntKind.i64.wrap ((IntKind.i64.wrap (x6.toNat : Int)) + 1))) fun x7 => (Option.bind (crossref_Framed x7) fun x8 => (Option.bind (sub x4 0 (IntKind.i64.wrap ((IntKind.i64.wrap (x6.toNat : Int)) + 3))) fun x9 => (some (!(x8 == x9))))))))) fun c10 => (if c10 = true then (Option.map Sum.inr (some (s2, s1))) else (Option.bind (sub x4 1 (IntKind.i64.wrap ((IntKind.i64.wrap (x6.toNat : Int)) + 1))) fun x13 => (Option.bind (app s2 [x13]) fun x14 => (some (.inl (IntKind.i64.wrap (s1 + (IntKind.i64.wrap ((IntKind.i64.wrap (x6.toNat : Int)) + 3))), x14))))))))))
noncomputable def crossref_Unframe (p0 : List UInt8) : Option ((List (List UInt8)) × Int) :=
  (iter (fun ss_17 : Int × (List (List UInt8)) => crossref_Unframe_l1 p0 ss_17.1 ss_17.2) (0, []))
/- crossroads/crossref.Pairs -/
noncomputable def crossref_Pairs_l1  (s1 : List UInt8) (s2 : List Choice) : Option (((List UInt8) × (List Choice)) ⊕ ((List Choice) × Bool)) :=
  (if (decide (((s1).length : Int) ≥ 2)) = true then (Option.bind (idx s1 0) fun x3 => (Option.bind (if (decide ((x3.toNat : Int) ≥ 12)) = true then (some true) else (Option.bind (idx s1 1) fun x4 => (some (decide ((x4.toNat : Int) ≥ 16))))) fun c5 => (if c5 = true then (Option.map Sum.inr (some ([], false))) else (Option.bind (idx s1 0) fun x6 => (Option.bind (idx s1 1) fun x7 => (Option.bind (app s2 [(⟨IntKind.i64.wrap (x6.toNat : Int), IntKind.i64.wrap (x7.toNat : Int)⟩ : Choice)]) fun x8 => (Option.bind (sub s1 2 ((s1).length : Int)) fun x9 => (some (.inl (x9, x8)))))))))) else (Option.map Sum.inr (some (s2, s1 == []))))
noncomputable def crossref_Pairs (p0 : List UInt8) : Option ((List Choice) × Bool) :=
  (iter (fun ss_11 : (List UInt8) × (List Choice) => crossref_Pairs_l1 ss_11.1 ss_11.2) (p0, []))
/- crossroads/crossref.LogOf -/
noncomputable def crossref_LogOf_l1 (p0 : Disk) (p1 : Int) (s1 : Int) (s2 : Int) (s3 : List Choice) : Option ((Int × Int × (List Choice)) ⊕ ((List Choice) × Int)) :=
  (if (decide (s2 < ((p0.Sectors).length : Int))) = true then (Option.bind (idx p0.Sectors s2) fun x6 => (Option.bind (crossref_Unframe x6) fun x7 => (Option.bind (if (((x7.1).length : Int) != 1) = true then (some true) else (Option.bind (idx p0.Sectors s2) fun x8 => (if (x7.2 != ((x8).length : Int)) = true then (some true) else (Option.bind (ixN x7.1 0) fun x9 => (Option.bind ((x7.1)[x9]?) fun x10 => (Option.bind (idx x10 0) fun x11 => (some ((IntKind.i64.wrap (x11.toNat : Int)) != p1)))))))) fun c12 => (if c12 = true then (Option.map Sum.inr (some (s3, s1))) else (Option.bind (ixN x7.1 0) fun x17 => (Option.bind ((x7.1)[x17]?) fun x18 => (Option.bind (sub x18 1 ((x18).length : Int)) fun x19 => (Option.bind (crossref_Pairs x19) fun x20 => (if ((!x20.2) || ((x20.1).length : Int) == 0) = true then (Option.map Sum.inr (some (s3, s1))) else (Option.bind (app s3 x20.1) fun x23 => (some (.inl (IntKind.i64.wrap (s1 + 1), IntKind.i64.wrap (s2 + 1), x23))))))))))))) else (Option.map Sum.inr (some (s3, s1))))
noncomputable def crossref_LogOf (p0 : Disk) (p1 : Int) : Option ((List Choice) × Int) :=
  (iter (fun ss_15 : Int × Int × (List Choice) => crossref_LogOf_l1 p0 p1 ss_15.1 ss_15.2.1 ss_15.2.2) (0, 120, []))
/- crossroads/crosslaw.LogScan -/
noncomputable def crosslaw_LogScan_k1 (p0 : Disk) (p1 : Int) (x2 : (List Choice) × Int × Int) (z5 : Int) : Option Bool :=
  (Option.bind crosslaw_logged fun x6 => (if ((!x6) || z5 != 0) = true then (Option.bind crosslaw_logged fun x8 => (some (x8 && ((x2.2.2 == z5) && ((((x2.1).length : Int) == 0) && x2.2.1 == 0))))) else (Option.bind (crossref_LogOf p0 p1) fun x11 => (Option.bind (if (x2.2.2 == 0) = true then (if (x2.2.1 == x11.2) = true then (Option.bind (slices_Equal_Choice x2.1 x11.1) fun x12 => (some x12)) else (some false)) else (some false)) fun c13 => (some c13)))))
noncomputable def crosslaw_LogScan (p0 : Disk) (p1 : Int) : Option Bool :=
  (Option.bind (log_Scan p0 p1) fun x2 => (Option.bind (crossref_CheckDisk p0) fun x4 => (if ((x4 == 0) && ((decide (p1 < 0)) || decide (p1 > 200))) = true then (crosslaw_LogScan_k1 p0 p1 x2 3) else (crosslaw_LogScan_k1 p0 p1 x2 x4))))
/- slices.Equal[[]string,string] -/
noncomputable def slices_Equal_string_l1 (p0 : List (List UInt8)) (p1 : List (List UInt8)) (s1 : Int) : Option (Int ⊕ Bool) :=
  (if (decide (s1 < ((p0).length : Int))) = true then (Option.bind (idx p0 s1) fun x4 => (Option.bind (idx p1 s1) fun x5 => (if (!(x4 == x5)) = true then (Option.map Sum.inr (some false)) else (some (.inl (IntKind.i64.wrap (s1 + 1))))))) else (Option.map Sum.inr (some true)))
noncomputable def slices_Equal_string (p0 : List (List UInt8)) (p1 : List (List UInt8)) : Option Bool :=
  (if (((p0).length : Int) != ((p1).length : Int)) = true then (some false) else (iter (fun ss_11 : Int => slices_Equal_string_l1 p0 p1 ss_11) 0))
/- slices.Equal[[]crossroads/api.Write,crossroads/api.Write] -/
noncomputable def slices_Equal_Write_l1 (p0 : List Write) (p1 : List Write) (s1 : Int) : Option (Int ⊕ Bool) :=
  (if (decide (s1 < ((p0).length : Int))) = true then (Option.bind (idx p0 s1) fun x4 => (Option.bind (idx p1 s1) fun x5 => (if (!(x4 == x5)) = true then (Option.map Sum.inr (some false)) else (some (.inl (IntKind.i64.wrap (s1 + 1))))))) else (Option.map Sum.inr (some true)))
noncomputable def slices_Equal_Write (p0 : List Write) (p1 : List Write) : Option Bool :=
  (if (((p0).length : Int) != ((p1).length : Int)) = true then (some false) else (iter (fun ss_11 : Int => slices_Equal_Write_l1 p0 p1 ss_11) 0))
/- crossroads/crossref.SameDisk -/
noncomputable def crossref_SameDisk (p0 : Disk) (p1 : Disk) : Option Bool :=
  (Option.bind (slices_Equal_string p0.Sectors p1.Sectors) fun x1 => (Option.bind (if x1 = true then (Option.bind (slices_Equal_Write p0.Wait p1.Wait) fun x2 => (some x2)) else (some false)) fun c3 => (some c3)))
/- crossroads/crosslaw.noDisk -/
noncomputable def crosslaw_noDisk (p0 : Disk) : Option Bool :=
  (Option.bind (crossref_SameDisk p0 (⟨[], []⟩ : Disk)) fun x2 => (some x2))
/- crossroads/crosslaw.LogAppend -/
noncomputable def crosslaw_LogAppend_k1 (s16 : List UInt8) (s17 : Int) (x19 : Choice) (z20 : Int) : Option ((Int × (List UInt8) × Int) ⊕ ((Int × Int × Int × (List Write)) ⊕ Bool)) :=
  (Option.bind (cat s16 (toStr [IntKind.u8.wrap x19.Node, IntKind.u8.wrap x19.Lane])) fun x21 => (some (.inl (z20, x21, IntKind.i64.wrap (s17 + 1)))))
noncomputable def crosslaw_LogAppend_l2 (s9 : Int) (s10 : Int) (s11 : List Write) (x14 : List Choice) (s15 : Int) (s16 : List UInt8) (s17 : Int) : Option ((Int × (List UInt8) × Int) ⊕ ((Int × Int × Int × (List Write)) ⊕ Bool)) :=
  (if (decide (s17 < ((x14).length : Int))) = true then (Option.bind (idx x14 s17) fun x19 => (if ((decide (x19.Node < 0)) || ((decide (x19.Node > 11)) || ((decide (x19.Lane < 0)) || decide (x19.Lane > 15)))) = true then (crosslaw_LogAppend_k1 s16 s17 x19 3) else (crosslaw_LogAppend_k1 s16 s17 x19 s15))) else (Option.map Sum.inr (if (s15 != 0) = true then (some (.inl (s15, s9, IntKind.i64.wrap (s10 + 29), s11))) else (if ((s9 == 80) || ((s11).length : Int) == 300) = true then (some (.inl (8, s9, IntKind.i64.wrap (s10 + 29), s11))) else (Option.bind (crossref_Framed s16) fun x25 => (Option.bind (app s11 [(⟨IntKind.i64.wrap (120 + s9), x25⟩ : Write)]) fun x26 => (some (.inl (s15, IntKind.i64.wrap (s9 + 1), IntKind.i64.wrap (s10 + 29), x26)))))))))
noncomputable def crosslaw_LogAppend_l3 (p0 : Disk) (p1 : Int) (x2 : Disk × Int × Int) (p3 : List Choice) (s8 : Int) (s9 : Int) (s10 : Int) (s11 : List Write) : Option ((Int × Int × Int × (List Write)) ⊕ Bool) :=
  (if ((s8 == 0) && decide (s10 < ((p3).length : Int))) = true then (Option.bind (sub p3 s10 (if ((p3).length : Int) < (IntKind.i64.wrap (s10 + 29)) then ((p3).length : Int) else (IntKind.i64.wrap (s10 + 29)))) fun x14 => (iter (fun ss_107 : Int × (List UInt8) × Int => crosslaw_LogAppend_l2 s9 s10 s11 x14 ss_107.1 ss_107.2.1 ss_107.2.2) (s8, toStr [IntKind.u8.wrap p1], 0))) else (Option.map Sum.inr (Option.bind crosslaw_logged fun x27 => (if ((!x27) || s8 != 0) = true then (Option.bind crosslaw_logged fun x29 => (Option.bind (if x29 = true then (if (x2.2.2 == s8) = true then (Option.bind (crosslaw_noDisk x2.1) fun x30 => (if x30 = true then (some (x2.2.1 == 0)) else (some false))) else (some false)) else (some false)) fun c31 => (some c31))) else (Option.bind (if (x2.2.2 == 0) = true then (if (x2.2.1 == s9) = true then (Option.bind (slices_Equal_string x2.1.Sectors p0.Sectors) fun x32 => (if x32 = true then (Option.bind (slices_Equal_Write x2.1.Wait s11) fun x33 => (some x33)) else (some false))) else (some false)) else (some false)) fun c34 => (some c34))))))
noncomputable def crosslaw_LogAppend_k4 (p0 : Disk) (p1 : Int) (p2 : Int) (x2 : Disk × Int × Int) (p3 : List Choice) (z5 : Int) : Option Bool :=
  (Option.bind (slices_Clone_Write p0.Wait) fun x7 => (iter (fun ss_83 : Int × Int × Int × (List Write) => crosslaw_LogAppend_l3 p0 p1 x2 p3 ss_83.1 ss_83.2.1 ss_83.2.2.1 ss_83.2.2.2) (z5, p2, 0, x7)))
noncomputable def crosslaw_LogAppend (p0 : Disk) (p1 : Int) (p2 : Int) (p3 : List Choice) : Option Bool :=
  (Option.bind (log_Append p0 p1 p2 p3) fun x2 => (Option.bind (crossref_CheckDisk p0) fun x4 => (if ((x4 == 0) && ((decide (p1 < 0)) || ((decide (p1 > 200)) || ((decide (p2 < 0)) || decide (p2 > 80))))) = true then (crosslaw_LogAppend_k4 p0 p1 p2 x2 p3 3) else (crosslaw_LogAppend_k4 p0 p1 p2 x2 p3 x4))))
/- crossroads/crossref.At -/
noncomputable def crossref_At (p0 : Int) (p1 : Int) : Option Int :=
  (Option.bind (rem p0 p1) fun x2 => (if (decide (x2 < 0)) = true then (some (IntKind.i64.wrap (x2 + p1))) else (some x2)))
/- crossroads/crosslaw.LogGoes -/
noncomputable def crosslaw_LogGoes_l1 (p0 : List (List Choice)) (p1 : Int) (p2 : Int) (s1 : Int) (s2 : Int) (s3 : List (List UInt8)) (s4 : List Write) (s5 : List Choice) : Option ((Int × Int × (List (List UInt8)) × (List Write) × (List Choice)) ⊕ Bool) :=
  (if (decide (s2 < ((p0).length : Int))) = true then (Option.bind (idx p0 s2) fun x7 => (Option.bind (log_Append (⟨s3, s4⟩ : Disk) p1 s1 x7) fun x9 => (if (x9.2.2 != 0) = true then (some (.inl (s1, IntKind.i64.wrap (s2 + 1), s3, s4, s5))) else (Option.bind (app s5 x7) fun x10 => (some (.inl (x9.2.1, IntKind.i64.wrap (s2 + 1), x9.1.Sectors, x9.1.Wait, x10))))))) else (Option.map Sum.inr (Option.bind (crossref_At p2 (IntKind.i64.wrap (((s4).length : Int) + 1))) fun x12 => (Option.bind (disk_Cut (⟨s3, s4⟩ : Disk) x12) fun x14 => (Option.bind (log_Scan x14.1 p1) fun x16 => (Option.bind crosslaw_logged fun x17 => (if ((!x17) || x14.2 != 0) = true then (Option.bind crosslaw_logged fun x20 => (some (if x20 = true then false else false))) else (if (x16.2.2 != 0) = true then (some ((x16.2.2 == 3) && ((s5).length : Int) == 0)) else (Option.bind (if (x16.2.1 != x12) = true then (some true) else (if (decide (((x16.1).length : Int) > ((s5).length : Int))) = true then (some true) else (Option.bind (sub s5 0 ((x16.1).length : Int)) fun x22 => (Option.bind (slices_Equal_Choice x16.1 x22) fun x23 => (if (!x23) = true then (some true) else (if (x12 == ((s4).length : Int)) = true then (some (((x16.1).length : Int) != ((s5).length : Int))) else (some false))))))) fun c24 => (if c24 = true then (some false) else (Option.bind (crossref_At (IntKind.i64.wrap (p1 + 1)) (201 : Int)) fun x27 => (Option.bind (log_Scan x14.1 x27) fun x28 => (some ((x28.2.2 == 0) && ((((x28.1).length : Int) == 0) && x28.2.1 == 0)))))))))))))))
noncomputable def crosslaw_LogGoes (p0 : List (List Choice)) (p1 : Int) (p2 : Int) : Option Bool :=
  (iter (fun ss_7 : Int × Int × (List (List UInt8)) × (List Write) × (List Choice) => crosslaw_LogGoes_l1 p0 p1 p2 ss_7.1 ss_7.2.1 ss_7.2.2.1 ss_7.2.2.2.1 ss_7.2.2.2.2) (0, 0, [], [], []))
/- math/bits.Mul64 -/
noncomputable def math_bits_Mul64 (p0 : Int) (p1 : Int) : Option (Int × Int) :=
  (Option.bind (shr .u64 p0 32) fun x2 => (Option.bind (shr .u64 p1 32) fun x4 => (Option.bind (shr .u64 (IntKind.u64.wrap ((ibits .and .u64 p0 4294967295) * (ibits .and .u64 p1 4294967295))) 32) fun x6 => (Option.bind (shr .u64 (IntKind.u64.wrap ((IntKind.u64.wrap (x2 * (ibits .and .u64 p1 4294967295))) + x6)) 32) fun x8 => (Option.bind (shr .u64 (IntKind.u64.wrap ((ibits .and .u64 (IntKind.u64.wrap ((IntKind.u64.wrap (x2 * (ibits .and .u64 p1 4294967295))) + x6)) 4294967295) + (IntKind.u64.wrap ((ibits .and .u64 p0 4294967295) * x4)))) 32) fun x10 => (some (IntKind.u64.wrap ((IntKind.u64.wrap ((IntKind.u64.wrap (x2 * x4)) + x8)) + x10), IntKind.u64.wrap (p0 * p1))))))))
/- math/bits.Mul -/
noncomputable def math_bits_Mul (p0 : Int) (p1 : Int) : Option (Int × Int) :=
  (Option.bind (math_bits_Mul64 p0 p1) fun x2 => (some (x2.1, x2.2)))
/- slices.Repeat[[]crossroads/net.ends,crossroads/net.ends] -/
noncomputable def slices_Repeat_ends_l1  (s6 : Int) (s7 : List Ends) : Option ((Int × (List Ends)) ⊕ (List Ends)) :=
  (if (decide (s6 < ((s7).length : Int))) = true then (Option.bind (vwok (s7).length s6 ((s7).length : Int)) fun x8 => (Option.bind (vwok (s7).length 0 s6) fun x9 => (Option.bind (vwok (s7).length ((s6).toNat : Nat) (((s6).toNat : Nat) + (((((s7).length : Int)).toNat - (s6).toNat) : Nat))) fun x10 => (Option.bind (vwok (s7).length (((0 : Int)).toNat : Nat) ((((0 : Int)).toNat : Nat) + (((s6).toNat - ((0 : Int)).toNat) : Nat))) fun x11 => (some (.inl (IntKind.i64.wrap (s6 + ((min ((((s7).length : Int)).toNat - (s6).toNat) ((s6).toNat - ((0 : Int)).toNat) : Nat) : Int)), (cpy s7 ((s6).toNat) ((((s7).length : Int)).toNat - (s6).toNat) ((s7.drop (((0 : Int)).toNat)).take ((s6).toNat - ((0 : Int)).toNat)))))))))) else (Option.map Sum.inr (some s7)))
noncomputable def slices_Repeat_ends (p0 : List Ends) (p1 : Int) : Option (List Ends) :=
  (if (decide (p1 < 0)) = true then (none) else (Option.bind (math_bits_Mul (IntKind.u64.wrap ((p0).length : Int)) (IntKind.u64.wrap p1)) fun x2 => (if ((decide (x2.1 > 0)) || decide (x2.2 > 9223372036854775807)) = true then (none) else (Option.bind (mk (IntKind.i64.wrap x2.2) (⟨0, 0⟩ : Ends)) fun x5 => (iter (fun ss_8 : Int × (List Ends) => slices_Repeat_ends_l1 ss_8.1 ss_8.2) (((min (x5).length (p0).length : Nat) : Int), (cpy x5 0 (x5).length p0)))))))
/- crossroads/net.arity -/
noncomputable def net_arity_k1 (p0 : Int) (z2 : Bool) : Option (Int × Int × Bool) :=
  (if z2 = true then (some (1, (-1), true)) else (if (p0 == 6) = true then (some ((-1), 1, true)) else (if (p0 == 8) = true then (some (1, 0, true)) else (some (0, 0, false)))))
noncomputable def net_arity_k2 (p0 : Int) (z1 : Bool) : Option (Int × Int × Bool) :=
  (if z1 = true then (some (1, 1, true)) else (if (p0 == 5) = true then (net_arity_k1 p0 (p0 == 5)) else (net_arity_k1 p0 (p0 == 7))))
noncomputable def net_arity (p0 : Int) : Option (Int × Int × Bool) :=
  (if (p0 == 1) = true then (some (0, 1, true)) else (if (p0 == 2) = true then (net_arity_k2 p0 (p0 == 2)) else (if (p0 == 3) = true then (net_arity_k2 p0 (p0 == 3)) else (net_arity_k2 p0 (p0 == 4)))))
/- crossroads/net.fits -/
noncomputable def net_fits (p0 : Int) (p1 : Int) : Option Bool :=
  (some ((p0 == p1) || ((decide (p1 < 0)) && decide (p0 > 0))))
/- crossroads/net.look -/
noncomputable def net_look_l1 (p0 : Net) (s6 : Int) (x9 : Node) (z15 : Int) (s27 : Int) (s28 : List Ends) : Option ((Int × (List Ends)) ⊕ ((Int × Int × (List Ends)) ⊕ ((List Ends) × Int))) :=
  (if (decide (s27 < ((x9.Out).length : Int))) = true then (Option.bind (idx x9.Out s27) fun x30 => (if ((decide (x30 < 0)) || decide (x30 ≥ p0.Rings)) = true then (Option.map Sum.inr (Option.map Sum.inr (some ([], 3)))) else (Option.bind (ixN s28 x30) fun x34 => (Option.bind ((s28)[x34]?) fun x35 => (if (decide (x35.src ≥ 0)) = true then (Option.map Sum.inr (Option.map Sum.inr (some ([], 6)))) else (Option.bind (ixN s28 x30) fun x36 => (Option.bind ((s28)[x36]?) fun x37 => (some (.inl (IntKind.i64.wrap (s27 + 1), (List.set s28 x36 (⟨s6, x37.dst⟩ : Ends)))))))))))) else (Option.map Sum.inr (some (.inl (z15, IntKind.i64.wrap (s6 + 1), s28)))))
noncomputable def net_look_l2 (p0 : Net) (s6 : Int) (x9 : Node) (z15 : Int) (s16 : Int) (s17 : List Ends) : Option ((Int × (List Ends)) ⊕ ((Int × Int × (List Ends)) ⊕ ((List Ends) × Int))) :=
  (if (decide (s16 < ((x9.In).length : Int))) = true then (Option.bind (idx x9.In s16) fun x19 => (if ((decide (x19 < 0)) || decide (x19 ≥ p0.Rings)) = true then (Option.map Sum.inr (Option.map Sum.inr (some ([], 3)))) else (Option.bind (ixN s17 x19) fun x23 => (Option.bind ((s17)[x23]?) fun x24 => (if (decide (x24.dst ≥ 0)) = true then (Option.map Sum.inr (Option.map Sum.inr (some ([], 6)))) else (Option.bind (ixN s17 x19) fun x25 => (Option.bind ((s17)[x25]?) fun x26 => (some (.inl (IntKind.i64.wrap (s16 + 1), (List.set s17 x25 (⟨x26.src, s6⟩ : Ends)))))))))))) else (Option.map Sum.inr (iter (fun ss_223 : Int × (List Ends) => net_look_l1 p0 s6 x9 z15 ss_223.1 ss_223.2) (0, s17))))
noncomputable def net_look_k3 (p0 : Net) (s6 : Int) (s7 : List Ends) (x9 : Node) (z15 : Int) : Option ((Int × Int × (List Ends)) ⊕ ((List Ends) × Int)) :=
  (iter (fun ss_198 : Int × (List Ends) => net_look_l2 p0 s6 x9 z15 ss_198.1 ss_198.2) (0, s7))
noncomputable def net_look_l4 (s5 : Int) (s7 : List Ends) (s38 : Int) : Option (Int ⊕ ((List Ends) × Int)) :=
  (if (decide (s38 < ((s7).length : Int))) = true then (Option.bind (ixN s7 s38) fun x41 => (Option.bind ((s7)[x41]?) fun x42 => (if ((decide (x42.src < 0)) || decide (x42.dst < 0)) = true then (Option.map Sum.inr (some ([], 9))) else (some (.inl (IntKind.i64.wrap (s38 + 1))))))) else (Option.map Sum.inr (if (s5 != 1) = true then (some ([], 4)) else (some (s7, 0)))))
noncomputable def net_look_l5 (p0 : Net) (s5 : Int) (s6 : Int) (s7 : List Ends) : Option ((Int × Int × (List Ends)) ⊕ ((List Ends) × Int)) :=
  (if (decide (s6 < ((p0.Nodes).length : Int))) = true then (Option.bind (idx p0.Nodes s6) fun x9 => (Option.bind (net_arity x9.Kind) fun x11 => (if (!x11.2.2) = true then (Option.map Sum.inr (some ([], 5))) else (Option.bind (net_fits ((x9.In).length : Int) x11.1) fun x12 => (Option.bind (if (!x12) = true then (some true) else (Option.bind (net_fits ((x9.Out).length : Int) x11.2.1) fun x13 => (some (!x13)))) fun c14 => (if c14 = true then (Option.map Sum.inr (some ([], 4))) else (if ((decide (x9.A < 0)) || (if (x9.Kind == 1) = true then ((decide (x9.A ≥ 4)) || (if (x9.Kind == 2) = true then ((decide (x9.A > 3)) || ((x9.Kind != 1) && ((x9.Kind != 2) && x9.A != 0))) else ((x9.Kind != 1) && ((x9.Kind != 2) && x9.A != 0)))) else (if (x9.Kind == 2) = true then ((decide (x9.A > 3)) || ((x9.Kind != 1) && ((x9.Kind != 2) && x9.A != 0))) else ((x9.Kind != 1) && ((x9.Kind != 2) && x9.A != 0))))) = true then (Option.map Sum.inr (some ([], 3))) else (if (x9.Kind == 8) = true then (net_look_k3 p0 s6 s7 x9 (IntKind.i64.wrap (s5 + 1))) else (net_look_k3 p0 s6 s7 x9 s5))))))))) else (Option.map Sum.inr (iter (fun ss_246 : Int => net_look_l4 s5 s7 ss_246) 0)))
noncomputable def net_look (p0 : Net) : Option ((List Ends) × Int) :=
  (if ((decide (((p0.Nodes).length : Int) < 1)) || ((decide (((p0.Nodes).length : Int) > 12)) || ((decide (p0.Rings < 0)) || decide (p0.Rings > 16)))) = true then (some ([], 2)) else (if ((decide (p0.Room < 1)) || decide (p0.Room > 6)) = true then (some ([], 3)) else (Option.bind (slices_Repeat_ends ([(⟨(-1), (-1)⟩ : Ends)] : List Ends) p0.Rings) fun x4 => (iter (fun ss_155 : Int × Int × (List Ends) => net_look_l5 p0 ss_155.1 ss_155.2.1 ss_155.2.2) (0, 0, x4)))))
/- crossroads/net.Order$1 -/
noncomputable def net_Order_1_x523f (p0 : Int) (p1 : List Bool) (p2 : List Ends) : Option Bool :=
  (Option.bind (ixN p2 p0) fun x5 => (Option.bind ((p2)[x5]?) fun x6 => (Option.bind (ixN p1 x6.src) fun x7 => (Option.bind ((p1)[x7]?) fun x8 => (some (!x8))))))
/- slices.IndexFunc[[]int,int] -/
noncomputable def slices_IndexFunc_int_x5d6b_l1 (p0 : List Int) (p1 : List Bool) (p2 : List Ends) (s1 : Int) : Option (Int ⊕ Int) :=
  (if (decide (s1 < ((p0).length : Int))) = true then (Option.bind (idx p0 s1) fun x4 => (Option.bind (net_Order_1_x523f x4 p1 p2) fun x5 => (if x5 = true then (Option.map Sum.inr (some s1)) else (some (.inl (IntKind.i64.wrap (s1 + 1))))))) else (Option.map Sum.inr (some (-1))))
noncomputable def slices_IndexFunc_int_x5d6b (p0 : List Int) (p1 : List Bool) (p2 : List Ends) : Option Int :=
  (iter (fun ss_7 : Int => slices_IndexFunc_int_x5d6b_l1 p0 p1 p2 ss_7) 0)
/- slices.ContainsFunc[[]int,int] -/
noncomputable def slices_ContainsFunc_int_x5d6b (p0 : List Int) (p1 : List Bool) (p2 : List Ends) : Option Bool :=
  (Option.bind (slices_IndexFunc_int_x5d6b p0 p1 p2) fun x2 => (some (decide (x2 ≥ 0))))
/- crossroads/net.Order -/
noncomputable def net_Order_k1 (s5 : List Int) (s6 : List Bool) (z14 : Int) : Option (((List Int) × (List Bool)) ⊕ ((List Int) × Int)) :=
  (if (decide (z14 < 0)) = true then (Option.map Sum.inr (some ([], 7))) else (Option.bind (ixN s6 z14) fun x17 => (Option.bind ((s6)[x17]?) fun x18 => (Option.bind (app s5 [z14]) fun x19 => (some (.inl (x19, (List.set s6 x17 true))))))))
noncomputable def net_Order_l2 (p0 : Net) (x2 : (List Ends) × Int) (s5 : List Int) (s6 : List Bool) (s7 : Int) : Option (Int ⊕ (((List Int) × (List Bool)) ⊕ ((List Int) × Int))) :=
  (if (decide (s7 < ((p0.Nodes).length : Int))) = true then (Option.bind (idx p0.Nodes s7) fun x9 => (Option.bind (ixN s6 s7) fun x10 => (Option.bind ((s6)[x10]?) fun x11 => (Option.bind (if (!x11) = true then (Option.bind (slices_ContainsFunc_int_x5d6b x9.In s6 x2.1) fun x12 => (some (!x12))) else (some false)) fun c13 => (if c13 = true then (Option.map Sum.inr (net_Order_k1 s5 s6 s7)) else (some (.inl (IntKind.i64.wrap (s7 + 1))))))))) else (Option.map Sum.inr (net_Order_k1 s5 s6 (-1))))
noncomputable def net_Order_l3 (p0 : Net) (x2 : (List Ends) × Int) (s5 : List Int) (s6 : List Bool) : Option (((List Int) × (List Bool)) ⊕ ((List Int) × Int)) :=
  (if (decide (((s5).length : Int) < ((p0.Nodes).length : Int))) = true then (iter (fun ss_106 : Int => net_Order_l2 p0 x2 s5 s6 ss_106) 0) else (Option.map Sum.inr (some (s5, 0))))
noncomputable def net_Order (p0 : Net) : Option ((List Int) × Int) :=
  (Option.bind (net_look p0) fun x2 => (if (x2.2 != 0) = true then (some ([], x2.2)) else (Option.bind (mk ((p0.Nodes).length : Int) false) fun x4 => (iter (fun ss_75 : (List Int) × (List Bool) => net_Order_l3 p0 x2 ss_75.1 ss_75.2) ([], x4)))))
/- crossroads/crosslaw.meeting -/
noncomputable def crosslaw_meeting : Option Net :=
  (some (⟨[(⟨1, 0, [], [0]⟩ : Node), (⟨1, 1, [], [1]⟩ : Node), (⟨6, 0, [0, 1], [2]⟩ : Node), (⟨8, 0, [2], []⟩ : Node)], 3, 1⟩ : Net))
/- crossroads/net.Check -/
noncomputable def net_Check (p0 : Net) : Option Int :=
  (Option.bind (net_Order p0) fun x2 => (some x2.2))
/- crossroads/net.Merges -/
noncomputable def net_Merges_l1 (p0 : Net) (s3 : Int) (s4 : List Int) : Option ((Int × (List Int)) ⊕ ((List Int) × Int)) :=
  (if (decide (s3 < ((p0.Nodes).length : Int))) = true then (Option.bind (idx p0.Nodes s3) fun x6 => (if (x6.Kind == 6) = true then (Option.bind (app s4 [s3]) fun x7 => (some (.inl (IntKind.i64.wrap (s3 + 1), x7)))) else (some (.inl (IntKind.i64.wrap (s3 + 1), s4))))) else (Option.map Sum.inr (some (s4, 0))))
noncomputable def net_Merges (p0 : Net) : Option ((List Int) × Int) :=
  (Option.bind (net_Check p0) fun x2 => (if (x2 != 0) = true then (some ([], x2)) else (iter (fun ss_7 : Int × (List Int) => net_Merges_l1 p0 ss_7.1 ss_7.2) (0, []))))
/- slices.Equal[[]int,int] -/
noncomputable def slices_Equal_int_l1 (p0 : List Int) (p1 : List Int) (s1 : Int) : Option (Int ⊕ Bool) :=
  (if (decide (s1 < ((p0).length : Int))) = true then (Option.bind (idx p0 s1) fun x4 => (Option.bind (idx p1 s1) fun x5 => (if (x4 != x5) = true then (Option.map Sum.inr (some false)) else (some (.inl (IntKind.i64.wrap (s1 + 1))))))) else (Option.map Sum.inr (some true)))
noncomputable def slices_Equal_int (p0 : List Int) (p1 : List Int) : Option Bool :=
  (if (((p0).length : Int) != ((p1).length : Int)) = true then (some false) else (iter (fun ss_11 : Int => slices_Equal_int_l1 p0 p1 ss_11) 0))
/- crossroads/crosslaw.item -/
noncomputable def crosslaw_item (p0 : Int) (p1 : Int) : Option Item :=
  (some (⟨p0, p1, 0⟩ : Item))
/- crossroads/crosslaw.two -/
noncomputable def crosslaw_two : Option (List (List Item)) :=
  (Option.bind (crosslaw_item (1 : Int) (1 : Int)) fun x3 => (Option.bind (crosslaw_item (2 : Int) (2 : Int)) fun x4 => (some [[x3], [x4]])))
/- crossroads/net.Sources -/
noncomputable def net_Sources_l1 (s3 : Int) (x5 : List Item) (s6 : Int) : Option (Int ⊕ (Int ⊕ Int)) :=
  (if (decide (s6 < ((x5).length : Int))) = true then (Option.bind (idx x5 s6) fun x8 => (if (x8.Dep != 0) = true then (Option.map Sum.inr (Option.map Sum.inr (some 4))) else (some (.inl (IntKind.i64.wrap (s6 + 1)))))) else (Option.map Sum.inr (some (.inl (IntKind.i64.wrap (s3 + 1))))))
noncomputable def net_Sources_l2 (p0 : Net) (p1 : List (List Item)) (s11 : Int) (s12 : List Bool) : Option ((Int × (List Bool)) ⊕ Int) :=
  (if (decide (s11 < ((p0.Nodes).length : Int))) = true then (Option.bind (idx p0.Nodes s11) fun x14 => (if (x14.Kind != 1) = true then (some (.inl (IntKind.i64.wrap (s11 + 1), s12))) else (if (decide (x14.A ≥ ((p1).length : Int))) = true then (Option.map Sum.inr (some 5)) else (Option.bind (ixN s12 x14.A) fun x17 => (Option.bind ((s12)[x17]?) fun x18 => (if x18 = true then (Option.map Sum.inr (some 6)) else (Option.bind (ixN s12 x14.A) fun x19 => (Option.bind ((s12)[x19]?) fun x20 => (some (.inl (IntKind.i64.wrap (s11 + 1), (List.set s12 x19 true)))))))))))) else (Option.map Sum.inr (some 0)))
noncomputable def net_Sources_l3 (p0 : Net) (p1 : List (List Item)) (s3 : Int) : Option (Int ⊕ Int) :=
  (if (decide (s3 < ((p1).length : Int))) = true then (Option.bind (idx p1 s3) fun x5 => (if (decide (((x5).length : Int) > 20)) = true then (Option.map Sum.inr (some 2)) else (iter (fun ss_49 : Int => net_Sources_l1 s3 x5 ss_49) 0))) else (Option.map Sum.inr (Option.bind (mk ((p1).length : Int) false) fun x10 => (iter (fun ss_70 : Int × (List Bool) => net_Sources_l2 p0 p1 ss_70.1 ss_70.2) (0, x10)))))
noncomputable def net_Sources (p0 : Net) (p1 : List (List Item)) : Option Int :=
  (Option.bind (net_Check p0) fun x2 => (if (x2 != 0) = true then (some x2) else (if (decide (((p1).length : Int) > 4)) = true then (some 2) else (iter (fun ss_37 : Int => net_Sources_l3 p0 p1 ss_37) 0))))
/- crossroads/crosslaw.netted -/
noncomputable def crosslaw_netted : Option Bool :=
  (Option.bind crosslaw_meeting fun x3 => (Option.bind (net_Order x3) fun x4 => (Option.bind crosslaw_meeting fun x7 => (Option.bind (net_Merges x7) fun x8 => (Option.bind (if (x4.2 == 0) = true then (if (x8.2 == 0) = true then (Option.bind (slices_Equal_int x4.1 ([0, 1, 2, 3] : List Int)) fun x9 => (if x9 = true then (Option.bind (slices_Equal_int x8.1 ([2] : List Int)) fun x10 => (if x10 = true then (Option.bind crosslaw_meeting fun x11 => (Option.bind crosslaw_two fun x12 => (Option.bind (net_Sources x11 x12) fun x13 => (some (x13 == 0))))) else (some false))) else (some false))) else (some false)) else (some false)) fun c14 => (some c14))))))
/- crossroads/net.Ends -/
noncomputable def net_Ends (p0 : Net) (p1 : Int) : Option (Int × Int × Int) :=
  (Option.bind (net_Check p0) fun x2 => (if (x2 != 0) = true then (some (0, 0, x2)) else (if ((decide (p1 < 0)) || decide (p1 ≥ p0.Rings)) = true then (some (0, 0, 5)) else (Option.bind (net_look p0) fun x5 => (Option.bind (ixN x5.1 p1) fun x10 => (Option.bind ((x5.1)[x10]?) fun x11 => (Option.bind (ixN x5.1 p1) fun x12 => (Option.bind ((x5.1)[x12]?) fun x13 => (some (x11.src, x13.dst, 0))))))))))
/- crossroads/crosslaw.NetStands -/
noncomputable def crosslaw_NetStands_l1 (p0 : Net) (s8 : List (Int × Int)) (s14 : Int) : Option (Int ⊕ Bool) :=
  (if (decide (s14 < p0.Rings)) = true then (Option.bind (net_Ends p0 s14) fun x16 => (if ((x16.2.2 != 0) || decide (((mget x16.1 s8).getD 0) ≥ ((mget x16.2.1 s8).getD 0))) = true then (Option.map Sum.inr (some false)) else (some (.inl (IntKind.i64.wrap (s14 + 1)))))) else (Option.map Sum.inr (some true)))
noncomputable def crosslaw_NetStands_l2 (p0 : Net) (x2 : (List Int) × Int) (s7 : Int) (s8 : List (Int × Int)) : Option ((Int × (List (Int × Int))) ⊕ Bool) :=
  (if (decide (s7 < ((x2.1).length : Int))) = true then (Option.bind (ixN x2.1 s7) fun x11 => (Option.bind ((x2.1)[x11]?) fun x12 => (some (.inl (IntKind.i64.wrap (s7 + 1), (mset x12 s7 s8)))))) else (Option.map Sum.inr (if ((((s8).length : Int) != ((p0.Nodes).length : Int)) || ((x2.1).length : Int) != ((p0.Nodes).length : Int)) = true then (some false) else (iter (fun ss_21 : Int => crosslaw_NetStands_l1 p0 s8 ss_21) 0))))
noncomputable def crosslaw_NetStands (p0 : Net) : Option Bool :=
  (Option.bind (net_Order p0) fun x2 => (Option.bind crosslaw_netted fun x3 => (if ((!x3) || x2.2 != 0) = true then (Option.bind crosslaw_netted fun x6 => (some x6)) else (iter (fun ss_6 : Int × (List (Int × Int)) => crosslaw_NetStands_l2 p0 x2 ss_6.1 ss_6.2) (0, ([] : List (Int × Int)))))))
/- crossroads/crossref.CheckNet$3 -/
noncomputable def crossref_CheckNet_3 (p0 : Int) : Option Bool :=
  (some (p0 == 0))
/- crossroads/crossref.CheckNet$1 -/
noncomputable def crossref_CheckNet_1 (p0 : Int) : Option Bool :=
  (some (p0 == 1))
/- crossroads/crossref.CheckNet$2 -/
noncomputable def crossref_CheckNet_2 (p0 : Int) : Option Bool :=
  (some (decide (p0 ≥ 1)))
/- slices.Index[[]int,int] -/
noncomputable def slices_Index_int_l1 (p0 : List Int) (p1 : Int) (s1 : Int) : Option (Int ⊕ Int) :=
  (if (decide (s1 < ((p0).length : Int))) = true then (Option.bind (idx p0 s1) fun x3 => (if (p1 == x3) = true then (Option.map Sum.inr (some s1)) else (some (.inl (IntKind.i64.wrap (s1 + 1)))))) else (Option.map Sum.inr (some (-1))))
noncomputable def slices_Index_int (p0 : List Int) (p1 : Int) : Option Int :=
  (iter (fun ss_7 : Int => slices_Index_int_l1 p0 p1 ss_7) 0)
/- slices.Contains[[]int,int] -/
noncomputable def slices_Contains_int (p0 : List Int) (p1 : Int) : Option Bool :=
  (Option.bind (slices_Index_int p0 p1) fun x2 => (some (decide (x2 ≥ 0))))
/- crossroads/crossref.CheckNet -/
noncomputable def crossref_CheckNet_l1 (p0 : Net) (s3 : Int) (s4 : Int) (x8 : Node) (s35 : List (Int × Int)) (s39 : Int) (s40 : List (Int × Int)) : Option ((Int × (List (Int × Int))) ⊕ ((Int × Int × (List (Int × Int)) × (List (Int × Int))) ⊕ ((List Int) × Int))) :=
  (if (decide (s39 < ((x8.Out).length : Int))) = true then (Option.bind (idx x8.Out s39) fun x42 => (if ((decide (x42 < 0)) || decide (x42 ≥ p0.Rings)) = true then (Option.map Sum.inr (Option.map Sum.inr (some ([], 3)))) else (if ((mget x42 s40).isSome) = true then (Option.map Sum.inr (Option.map Sum.inr (some ([], 6)))) else (some (.inl (IntKind.i64.wrap (s39 + 1), (mset x42 s4 s40))))))) else (Option.map Sum.inr (if (x8.Kind == 8) = true then (some (.inl (IntKind.i64.wrap (s3 + 1), IntKind.i64.wrap (s4 + 1), s40, s35))) else (some (.inl (s3, IntKind.i64.wrap (s4 + 1), s40, s35))))))
noncomputable def crossref_CheckNet_l2 (p0 : Net) (s3 : Int) (s4 : Int) (s5 : List (Int × Int)) (x8 : Node) (s34 : Int) (s35 : List (Int × Int)) : Option ((Int × (List (Int × Int))) ⊕ ((Int × Int × (List (Int × Int)) × (List (Int × Int))) ⊕ ((List Int) × Int))) :=
  (if (decide (s34 < ((x8.In).length : Int))) = true then (Option.bind (idx x8.In s34) fun x37 => (if ((decide (x37 < 0)) || decide (x37 ≥ p0.Rings)) = true then (Option.map Sum.inr (Option.map Sum.inr (some ([], 3)))) else (if ((mget x37 s35).isSome) = true then (Option.map Sum.inr (Option.map Sum.inr (some ([], 6)))) else (some (.inl (IntKind.i64.wrap (s34 + 1), (mset x37 s4 s35))))))) else (Option.map Sum.inr (iter (fun ss_478 : Int × (List (Int × Int)) => crossref_CheckNet_l1 p0 s3 s4 x8 s35 ss_478.1 ss_478.2) (0, s5))))
noncomputable def crossref_CheckNet_k3 (p0 : Net) (s3 : Int) (s4 : Int) (s5 : List (Int × Int)) (s6 : List (Int × Int)) (x8 : Node) : Option ((Int × Int × (List (Int × Int)) × (List (Int × Int))) ⊕ ((List Int) × Int)) :=
  (if ((decide (x8.A < 0)) || decide (x8.A > ((mget x8.Kind (mset 2 3 (mset 1 3 ([] : List (Int × Int))))).getD 0))) = true then (Option.map Sum.inr (some ([], 3))) else (iter (fun ss_453 : Int × (List (Int × Int)) => crossref_CheckNet_l2 p0 s3 s4 s5 x8 ss_453.1 ss_453.2) (0, s6)))
noncomputable def crossref_CheckNet_l4 (s5 : List (Int × Int)) (s46 : List Int) (s47 : Int) (s48 : Int) (x52 : Node) (s53 : Bool) (s54 : Int) : Option ((Bool × Int) ⊕ ((Int × Int) ⊕ ((Int × (List Int)) ⊕ ((List Int) × Int)))) :=
  (if (decide (s54 < ((x52.In).length : Int))) = true then (Option.bind (idx x52.In s54) fun x56 => (if s53 = true then (Option.bind (slices_Contains_int s46 ((mget x56 s5).getD 0)) fun x57 => (some (.inl (x57, IntKind.i64.wrap (s54 + 1))))) else (some (.inl (false, IntKind.i64.wrap (s54 + 1)))))) else (Option.map Sum.inr (if s53 = true then (some (.inl (s48, IntKind.i64.wrap (s48 - 1)))) else (some (.inl (s47, IntKind.i64.wrap (s48 - 1)))))))
noncomputable def crossref_CheckNet_l5 (p0 : Net) (s5 : List (Int × Int)) (s45 : Int) (s46 : List Int) (s47 : Int) (s48 : Int) : Option ((Int × Int) ⊕ ((Int × (List Int)) ⊕ ((List Int) × Int))) :=
  (if (decide (s48 ≥ 0)) = true then (Option.bind (slices_Contains_int s46 s48) fun x50 => (if x50 = true then (some (.inl (s47, IntKind.i64.wrap (s48 - 1)))) else (Option.bind (idx p0.Nodes s48) fun x52 => (iter (fun ss_666 : Bool × Int => crossref_CheckNet_l4 s5 s46 s47 s48 x52 ss_666.1 ss_666.2) (true, 0))))) else (Option.map Sum.inr (if (decide (s47 < 0)) = true then (Option.map Sum.inr (some ([], 7))) else (Option.bind (app s46 [s47]) fun x58 => (some (.inl (IntKind.i64.wrap (s45 + 1), x58)))))))
noncomputable def crossref_CheckNet_l6 (p0 : Net) (s5 : List (Int × Int)) (s45 : Int) (s46 : List Int) : Option ((Int × (List Int)) ⊕ ((List Int) × Int)) :=
  (if (decide (s45 < ((p0.Nodes).length : Int))) = true then (iter (fun ss_659 : Int × Int => crossref_CheckNet_l5 p0 s5 s45 s46 ss_659.1 ss_659.2) ((-1), IntKind.i64.wrap (((p0.Nodes).length : Int) - 1))) else (Option.map Sum.inr (some (s46, 0))))
noncomputable def crossref_CheckNet_l7 (p0 : Net) (s3 : Int) (s4 : Int) (s5 : List (Int × Int)) (s6 : List (Int × Int)) : Option ((Int × Int × (List (Int × Int)) × (List (Int × Int))) ⊕ ((List Int) × Int)) :=
  (if (decide (s4 < ((p0.Nodes).length : Int))) = true then (Option.bind (idx p0.Nodes s4) fun x8 => (if (x8.Kind == 1) = true then (Option.bind (crossref_CheckNet_3 ((x8.In).length : Int)) fun x9 => (Option.bind (if (!x9) = true then (some true) else (Option.bind (crossref_CheckNet_1 ((x8.Out).length : Int)) fun x10 => (some (!x10)))) fun c11 => (if c11 = true then (Option.map Sum.inr (some ([], 4))) else (crossref_CheckNet_k3 p0 s3 s4 s5 s6 x8)))) else (if (x8.Kind == 2) = true then (Option.bind (crossref_CheckNet_1 ((x8.In).length : Int)) fun x12 => (Option.bind (if (!x12) = true then (some true) else (Option.bind (crossref_CheckNet_1 ((x8.Out).length : Int)) fun x13 => (some (!x13)))) fun c14 => (if c14 = true then (Option.map Sum.inr (some ([], 4))) else (crossref_CheckNet_k3 p0 s3 s4 s5 s6 x8)))) else (if (x8.Kind == 3) = true then (Option.bind (crossref_CheckNet_1 ((x8.In).length : Int)) fun x15 => (Option.bind (if (!x15) = true then (some true) else (Option.bind (crossref_CheckNet_1 ((x8.Out).length : Int)) fun x16 => (some (!x16)))) fun c17 => (if c17 = true then (Option.map Sum.inr (some ([], 4))) else (crossref_CheckNet_k3 p0 s3 s4 s5 s6 x8)))) else (if (x8.Kind == 4) = true then (Option.bind (crossref_CheckNet_1 ((x8.In).length : Int)) fun x18 => (Option.bind (if (!x18) = true then (some true) else (Option.bind (crossref_CheckNet_1 ((x8.Out).length : Int)) fun x19 => (some (!x19)))) fun c20 => (if c20 = true then (Option.map Sum.inr (some ([], 4))) else (crossref_CheckNet_k3 p0 s3 s4 s5 s6 x8)))) else (if (x8.Kind == 5) = true then (Option.bind (crossref_CheckNet_1 ((x8.In).length : Int)) fun x21 => (Option.bind (if (!x21) = true then (some true) else (Option.bind (crossref_CheckNet_2 ((x8.Out).length : Int)) fun x22 => (some (!x22)))) fun c23 => (if c23 = true then (Option.map Sum.inr (some ([], 4))) else (crossref_CheckNet_k3 p0 s3 s4 s5 s6 x8)))) else (if (x8.Kind == 7) = true then (Option.bind (crossref_CheckNet_1 ((x8.In).length : Int)) fun x24 => (Option.bind (if (!x24) = true then (some true) else (Option.bind (crossref_CheckNet_2 ((x8.Out).length : Int)) fun x25 => (some (!x25)))) fun c26 => (if c26 = true then (Option.map Sum.inr (some ([], 4))) else (crossref_CheckNet_k3 p0 s3 s4 s5 s6 x8)))) else (if (x8.Kind == 6) = true then (Option.bind (crossref_CheckNet_2 ((x8.In).length : Int)) fun x27 => (Option.bind (if (!x27) = true then (some true) else (Option.bind (crossref_CheckNet_1 ((x8.Out).length : Int)) fun x28 => (some (!x28)))) fun c29 => (if c29 = true then (Option.map Sum.inr (some ([], 4))) else (crossref_CheckNet_k3 p0 s3 s4 s5 s6 x8)))) else (if (x8.Kind == 8) = true then (Option.bind (crossref_CheckNet_1 ((x8.In).length : Int)) fun x30 => (Option.bind (if (!x30) = true then (some true) else (Option.bind (crossref_CheckNet_3 ((x8.Out).length : Int)) fun x31 => (some (!x31)))) fun c32 => (if c32 = true then (Option.map Sum.inr (some ([], 4))) else (crossref_CheckNet_k3 p0 s3 s4 s5 s6 x8)))) else (Option.map Sum.inr (some ([], 5)))))))))))) else (Option.map Sum.inr (if ((((s5).length : Int) != p0.Rings) || ((s6).length : Int) != p0.Rings) = true then (some ([], 9)) else (if (s3 != 1) = true then (some ([], 4)) else (iter (fun ss_634 : Int × (List Int) => crossref_CheckNet_l6 p0 s5 ss_634.1 ss_634.2) (0, []))))))
noncomputable def crossref_CheckNet (p0 : Net) : Option ((List Int) × Int) :=
  (if ((((p0.Nodes).length : Int) == 0) || ((decide (((p0.Nodes).length : Int) > 12)) || ((decide (p0.Rings < 0)) || decide (p0.Rings > 16)))) = true then (some ([], 2)) else (if ((decide (p0.Room < 1)) || decide (p0.Room > 6)) = true then (some ([], 3)) else (iter (fun ss_359 : Int × Int × (List (Int × Int)) × (List (Int × Int)) => crossref_CheckNet_l7 p0 ss_359.1 ss_359.2.1 ss_359.2.2.1 ss_359.2.2.2) (0, 0, ([] : List (Int × Int)), ([] : List (Int × Int))))))
/- crossroads/crosslaw.NetOrder -/
noncomputable def crosslaw_NetOrder_l1 (p0 : Net) (x4 : (List Int) × Int) (x6 : (List Int) × Int) (s11 : Int) (s12 : List Int) : Option ((Int × (List Int)) ⊕ Bool) :=
  (if (decide (s11 < ((p0.Nodes).length : Int))) = true then (Option.bind (idx p0.Nodes s11) fun x14 => (if ((x6.2 == 0) && x14.Kind == 6) = true then (Option.bind (app s12 [s11]) fun x16 => (some (.inl (IntKind.i64.wrap (s11 + 1), x16)))) else (some (.inl (IntKind.i64.wrap (s11 + 1), s12))))) else (Option.map Sum.inr (Option.bind (slices_Equal_int x4.1 s12) fun x18 => (some x18))))
noncomputable def crosslaw_NetOrder (p0 : Net) : Option Bool :=
  (Option.bind (net_Order p0) fun x2 => (Option.bind (net_Merges p0) fun x4 => (Option.bind (crossref_CheckNet p0) fun x6 => (Option.bind crosslaw_netted fun x7 => (Option.bind (if (!x7) = true then (some true) else (Option.bind (net_Check p0) fun x8 => (if (x8 != x6.2) = true then (some true) else (if (x2.2 != x6.2) = true then (some true) else (if (x4.2 != x6.2) = true then (some true) else (Option.bind (slices_Equal_int x2.1 x6.1) fun x9 => (some (!x9)))))))) fun c10 => (if c10 = true then (some false) else (iter (fun ss_14 : Int × (List Int) => crosslaw_NetOrder_l1 p0 x4 x6 ss_14.1 ss_14.2) (0, []))))))))
/- crossroads/crossref.CheckSources -/
noncomputable def crossref_CheckSources_l1 (s3 : Int) (x5 : List Item) (s6 : Int) : Option (Int ⊕ (Int ⊕ Int)) :=
  (if (decide (s6 < ((x5).length : Int))) = true then (Option.bind (idx x5 s6) fun x8 => (if (x8.Dep != 0) = true then (Option.map Sum.inr (Option.map Sum.inr (some 4))) else (some (.inl (IntKind.i64.wrap (s6 + 1)))))) else (Option.map Sum.inr (some (.inl (IntKind.i64.wrap (s3 + 1))))))
noncomputable def crossref_CheckSources_l2 (p0 : Net) (p1 : List (List Item)) (s9 : Int) (s10 : List (Int × Int)) : Option ((Int × (List (Int × Int))) ⊕ Int) :=
  (if (decide (s9 < ((p0.Nodes).length : Int))) = true then (Option.bind (idx p0.Nodes s9) fun x12 => (if (x12.Kind == 1) = true then (if (decide (x12.A ≥ ((p1).length : Int))) = true then (Option.map Sum.inr (some 5)) else (if (decide (((mget x12.A (mset x12.A (IntKind.i64.wrap (((mget x12.A s10).getD 0) + 1)) s10)).getD 0) > 1)) = true then (Option.map Sum.inr (some 6)) else (some (.inl (IntKind.i64.wrap (s9 + 1), (mset x12.A (IntKind.i64.wrap (((mget x12.A s10).getD 0) + 1)) s10)))))) else (some (.inl (IntKind.i64.wrap (s9 + 1), s10))))) else (Option.map Sum.inr (some 0)))
noncomputable def crossref_CheckSources_l3 (p0 : Net) (p1 : List (List Item)) (s3 : Int) : Option (Int ⊕ Int) :=
  (if (decide (s3 < ((p1).length : Int))) = true then (Option.bind (idx p1 s3) fun x5 => (if (decide (((x5).length : Int) > 20)) = true then (Option.map Sum.inr (some 2)) else (iter (fun ss_49 : Int => crossref_CheckSources_l1 s3 x5 ss_49) 0))) else (Option.map Sum.inr (iter (fun ss_70 : Int × (List (Int × Int)) => crossref_CheckSources_l2 p0 p1 ss_70.1 ss_70.2) (0, ([] : List (Int × Int))))))
noncomputable def crossref_CheckSources (p0 : Net) (p1 : List (List Item)) : Option Int :=
  (Option.bind (crossref_CheckNet p0) fun x2 => (if (x2.2 != 0) = true then (some x2.2) else (if (decide (((p1).length : Int) > 4)) = true then (some 2) else (iter (fun ss_37 : Int => crossref_CheckSources_l3 p0 p1 ss_37) 0))))
/- crossroads/crosslaw.NetSources -/
noncomputable def crosslaw_NetSources (p0 : Net) (p1 : List (List Item)) : Option Bool :=
  (Option.bind crosslaw_netted fun x1 => (Option.bind (if x1 = true then (Option.bind (net_Sources p0 p1) fun x2 => (Option.bind (crossref_CheckSources p0 p1) fun x3 => (some (x2 == x3)))) else (some false)) fun c4 => (some c4)))
/- slices.Grow[[]crossroads/api.Choice,crossroads/api.Choice] -/
noncomputable def slices_Grow_Choice_x0013 (p0 : Int) : Option (List Choice) :=
  (if (decide (p0 < 0)) = true then (none) else (if (decide ((IntKind.i64.wrap (p0 - (IntKind.i64.wrap (0 - 0)))) > 0)) = true then (Option.bind (appz ([] : List Choice) (IntKind.i64.wrap (p0 - (IntKind.i64.wrap (0 - 0)))) (⟨0, 0⟩ : Choice)) fun x1 => (Option.bind (sub x1 0 0) fun x2 => (some x2))) else (some [])))
/- slices.Concat[[]crossroads/api.Choice,crossroads/api.Choice] -/
noncomputable def slices_Concat_Choice_l1 (p0 : List (List Choice)) (s7 : Int) (s8 : List Choice) : Option ((Int × (List Choice)) ⊕ (List Choice)) :=
  (if (decide (s7 < ((p0).length : Int))) = true then (Option.bind (idx p0 s7) fun x10 => (Option.bind (app s8 x10) fun x11 => (some (.inl (IntKind.i64.wrap (s7 + 1), x11))))) else (Option.map Sum.inr (some s8)))
noncomputable def slices_Concat_Choice_l2 (p0 : List (List Choice)) (s1 : Int) (s2 : Int) : Option ((Int × Int) ⊕ (List Choice)) :=
  (if (decide (s2 < ((p0).length : Int))) = true then (Option.bind (idx p0 s2) fun x4 => (if (decide ((IntKind.i64.wrap (s1 + ((x4).length : Int))) < 0)) = true then (none) else (some (.inl (IntKind.i64.wrap (s1 + ((x4).length : Int)), IntKind.i64.wrap (s2 + 1)))))) else (Option.map Sum.inr (Option.bind (slices_Grow_Choice_x0013 s1) fun x6 => (iter (fun ss_12 : Int × (List Choice) => slices_Concat_Choice_l1 p0 ss_12.1 ss_12.2) (0, x6)))))
noncomputable def slices_Concat_Choice (p0 : List (List Choice)) : Option (List Choice) :=
  (iter (fun ss_5 : Int × Int => slices_Concat_Choice_l2 p0 ss_5.1 ss_5.2) (0, 0))
/- crossroads/crosslaw.LogOn -/
noncomputable def crosslaw_LogOn (p0 : List Choice) (p1 : List Choice) (p2 : Int) (p3 : Int) : Option Bool :=
  (Option.bind (log_Append (⟨[], []⟩ : Disk) p2 (0 : Int) p0) fun x2 => (Option.bind crosslaw_logged fun x3 => (if ((!x3) || x2.2.2 != 0) = true then (Option.bind crosslaw_logged fun x6 => (some x6)) else (Option.bind (crossref_At p3 (IntKind.i64.wrap (((x2.1.Wait).length : Int) + 1))) fun x9 => (Option.bind (disk_Cut x2.1 x9) fun x10 => (Option.bind (log_Scan x10.1 p2) fun x12 => (if ((x10.2 != 0) || x12.2.2 != 0) = true then (some false) else (Option.bind (log_Append x10.1 p2 x12.2.1 p1) fun x15 => (if (x15.2.2 != 0) = true then (some ((x15.2.2 == 3) || x15.2.2 == 8)) else (Option.bind (disk_Flush x15.1) fun x18 => (Option.bind (log_Scan x18.1 p2) fun x20 => (Option.bind (if (x18.2 == 0) = true then (if (x20.2.2 == 0) = true then (Option.bind (slices_Concat_Choice ([x12.1, p1] : List (List Choice))) fun x21 => (Option.bind (slices_Equal_Choice x20.1 x21) fun x22 => (some x22))) else (some false)) else (some false)) fun c23 => (some c23)))))))))))))
/- crossroads/stage.Check -/
noncomputable def stage_Check_l1 (p0 : Memory) (s1 : Int) : Option (Int ⊕ Int) :=
  (if (decide (s1 < ((p0.Keys).length : Int))) = true then (Option.bind (idx p0.Keys s1) fun x3 => (Option.bind (if (decide (x3.N < 1)) = true then (some true) else (if (decide (s1 > 0)) = true then (Option.bind (idx p0.Keys (IntKind.i64.wrap (s1 - 1))) fun x4 => (some (decide (x4.Key ≥ x3.Key)))) else (some false))) fun c5 => (if c5 = true then (Option.map Sum.inr (some 4)) else (some (.inl (IntKind.i64.wrap (s1 + 1))))))) else (Option.map Sum.inr (if (decide (p0.Dep < 0)) = true then (some 3) else (some 0))))
noncomputable def stage_Check (p0 : Memory) : Option Int :=
  (if (decide (((p0.Keys).length : Int) > 6)) = true then (some 2) else (iter (fun ss_19 : Int => stage_Check_l1 p0 ss_19) 0))
/- slices.Clone[[]crossroads/api.Keyed,crossroads/api.Keyed] -/
def slices_Clone_Keyed (p0 : List Keyed) : Option (List Keyed) := app [] p0
/- crossroads/stage.Copy -/
noncomputable def stage_Copy (p0 : Memory) : Option Memory :=
  (Option.bind (slices_Clone_Keyed p0.Keys) fun x2 => (some (⟨p0.Sum, x2, p0.Dep⟩ : Memory)))
/- crossroads/stage.mapped$1 -/
noncomputable def stage_mapped_1 (p0 : Item) : Option Int :=
  (some (IntKind.i64.wrap (p0.Val + 1)))
/- crossroads/stage.mapped$2 -/
noncomputable def stage_mapped_2 (p0 : Item) : Option Int :=
  (some (IntKind.i64.wrap (2 * p0.Val)))
/- crossroads/stage.mapped$3 -/
noncomputable def stage_mapped_3 (p0 : Item) : Option Int :=
  (some (IntKind.i64.wrap (0 - p0.Val)))
/- crossroads/stage.mapped$4 -/
noncomputable def stage_mapped_4 (p0 : Item) : Option Int :=
  (some (IntKind.i64.wrap (p0.Val + p0.Key)))
/- crossroads/stage.mapped -/
noncomputable def stage_mapped (p0 : Int) (p1 : Item) : Option Item :=
  (Option.bind (if (p0 == 0) = true then (Option.bind (stage_mapped_1 p1) fun x1 => (some x1)) else (if (p0 == 1) = true then (Option.bind (stage_mapped_2 p1) fun x2 => (some x2)) else (if (p0 == 2) = true then (Option.bind (stage_mapped_3 p1) fun x3 => (some x3)) else (Option.bind (isAt p0 3) fun x4 => (Option.bind (stage_mapped_4 p1) fun x5 => (some x5)))))) fun c6 => (some (⟨p1.Key, c6, p1.Dep⟩ : Item)))
/- crossroads/stage.Step$1 -/
noncomputable def stage_Step_1 (p0 : Keyed) (p1 : Int) : Option Int :=
  (if (decide (p0.Key < p1)) = true then (some (-1)) else (if (decide (p0.Key > p1)) = true then (some 1) else (some 0)))
/- slices.BinarySearchFunc[[]crossroads/api.Keyed,crossroads/api.Keyed,int] -/
noncomputable def slices_BinarySearchFunc_Keyed_x37fe_l1 (p0 : List Keyed) (p1 : Int) (s1 : Int) (s2 : Int) : Option ((Int × Int) ⊕ (Int × Bool)) :=
  (if (decide (s1 < s2)) = true then (Option.bind (shr .u64 (IntKind.u64.wrap (IntKind.i64.wrap (s1 + s2))) 1) fun x4 => (Option.bind (idx p0 (IntKind.i64.wrap x4)) fun x7 => (Option.bind (stage_Step_1 x7 p1) fun x8 => (if (decide (x8 < 0)) = true then (some (.inl (IntKind.i64.wrap ((IntKind.i64.wrap x4) + 1), s2))) else (some (.inl (s1, IntKind.i64.wrap x4))))))) else (Option.map Sum.inr (Option.bind (if (decide (s1 < ((p0).length : Int))) = true then (Option.bind (idx p0 s1) fun x9 => (Option.bind (stage_Step_1 x9 p1) fun x10 => (some (x10 == 0)))) else (some false)) fun c11 => (some (s1, c11)))))
noncomputable def slices_BinarySearchFunc_Keyed_x37fe (p0 : List Keyed) (p1 : Int) : Option (Int × Bool) :=
  (iter (fun ss_5 : Int × Int => slices_BinarySearchFunc_Keyed_x37fe_l1 p0 p1 ss_5.1 ss_5.2) (0, ((p0).length : Int)))
/- slices.Insert[[]crossroads/api.Keyed,crossroads/api.Keyed] -/
noncomputable def slices_Insert_Keyed (p0 : List Keyed) (p1 : Int) (p2 : List Keyed) : Option (List Keyed) :=
  (Option.bind (sub p0 p1 ((p0).length : Int)) fun x2 => (if (((p2).length : Int) == 0) = true then (some p0) else (if (p1 == ((p0).length : Int)) = true then (none) else (none))))
/- crossroads/crosslaw.NetEnds$1 -/
noncomputable def crosslaw_NetEnds_1_x38ec (p0 : Node) (p1 : Int) : Option Bool :=
  (Option.bind (slices_Contains_int p0.Out p1) fun x2 => (some x2))
/- slices.IndexFunc[[]crossroads/api.Node,crossroads/api.Node] -/
noncomputable def slices_IndexFunc_Node_xfd40_l1 (p0 : List Node) (p1 : Int) (s1 : Int) : Option (Int ⊕ Int) :=
  (if (decide (s1 < ((p0).length : Int))) = true then (Option.bind (idx p0 s1) fun x4 => (Option.bind (crosslaw_NetEnds_1_x38ec x4 p1) fun x5 => (if x5 = true then (Option.map Sum.inr (some s1)) else (some (.inl (IntKind.i64.wrap (s1 + 1))))))) else (Option.map Sum.inr (some (-1))))
noncomputable def slices_IndexFunc_Node_xfd40 (p0 : List Node) (p1 : Int) : Option Int :=
  (iter (fun ss_7 : Int => slices_IndexFunc_Node_xfd40_l1 p0 p1 ss_7) 0)
/- crossroads/crosslaw.NetEnds$2 -/
noncomputable def crosslaw_NetEnds_2_x38ec (p0 : Node) (p1 : Int) : Option Bool :=
  (Option.bind (slices_Contains_int p0.In p1) fun x2 => (some x2))
/- slices.IndexFunc[[]crossroads/api.Node,crossroads/api.Node] -/
noncomputable def slices_IndexFunc_Node_x9a71_l1 (p0 : List Node) (p1 : Int) (s1 : Int) : Option (Int ⊕ Int) :=
  (if (decide (s1 < ((p0).length : Int))) = true then (Option.bind (idx p0 s1) fun x4 => (Option.bind (crosslaw_NetEnds_2_x38ec x4 p1) fun x5 => (if x5 = true then (Option.map Sum.inr (some s1)) else (some (.inl (IntKind.i64.wrap (s1 + 1))))))) else (Option.map Sum.inr (some (-1))))
noncomputable def slices_IndexFunc_Node_x9a71 (p0 : List Node) (p1 : Int) : Option Int :=
  (iter (fun ss_7 : Int => slices_IndexFunc_Node_x9a71_l1 p0 p1 ss_7) 0)
/- crossroads/crosslaw.NetEnds -/
noncomputable def crosslaw_NetEnds_k1 (p0 : Net) (p1 : Int) (x2 : Int × Int × Int) (z5 : Int) : Option Bool :=
  (Option.bind crosslaw_netted fun x6 => (if ((!x6) || z5 != 0) = true then (Option.bind crosslaw_netted fun x8 => (some (x8 && ((x2.2.2 == z5) && ((x2.1 == 0) && x2.2.1 == 0))))) else (Option.bind (slices_IndexFunc_Node_xfd40 p0.Nodes p1) fun x11 => (Option.bind (slices_IndexFunc_Node_x9a71 p0.Nodes p1) fun x13 => (some ((x2.2.2 == 0) && ((x2.1 == x11) && x2.2.1 == x13)))))))
noncomputable def crosslaw_NetEnds (p0 : Net) (p1 : Int) : Option Bool :=
  (Option.bind (net_Ends p0 p1) fun x2 => (Option.bind (crossref_CheckNet p0) fun x4 => (if ((x4.2 == 0) && ((decide (p1 < 0)) || decide (p1 ≥ p0.Rings))) = true then (crosslaw_NetEnds_k1 p0 p1 x2 5) else (crosslaw_NetEnds_k1 p0 p1 x2 x4.2))))
/- crossroads/stage.Lane -/
noncomputable def stage_Lane (p0 : Item) (p1 : Int) : Option (Int × Int) :=
  (if ((decide (p1 < 1)) || decide (p1 > 16)) = true then (some (0, 3)) else (Option.bind (rem p0.Key p1) fun x4 => (Option.bind (rem (IntKind.i64.wrap (x4 + p1)) p1) fun x5 => (some (x5, 0)))))
/- crossroads/crosslaw.ownMemory -/
noncomputable def crosslaw_ownMemory (p0 : Memory) : Option Memory :=
  (Option.bind (slices_Clone_Keyed p0.Keys) fun x2 => (some (⟨p0.Sum, x2, p0.Dep⟩ : Memory)))
/- crossroads/crossref.CheckMemory -/
noncomputable def crossref_CheckMemory_l1 (p0 : Memory) (s1 : Int) : Option (Int ⊕ Int) :=
  (if (decide (s1 < ((p0.Keys).length : Int))) = true then (Option.bind (idx p0.Keys s1) fun x3 => (if (decide (x3.N ≤ 0)) = true then (Option.map Sum.inr (some 4)) else (Option.bind (if (decide (s1 > 0)) = true then (Option.bind (idx p0.Keys (IntKind.i64.wrap (s1 - 1))) fun x4 => (some (decide (x3.Key ≤ x4.Key)))) else (some false)) fun c5 => (if c5 = true then (Option.map Sum.inr (some 4)) else (some (.inl (IntKind.i64.wrap (s1 + 1)))))))) else (Option.map Sum.inr (if (decide (p0.Dep < 0)) = true then (some 3) else (some 0))))
noncomputable def crossref_CheckMemory (p0 : Memory) : Option Int :=
  (if (decide (((p0.Keys).length : Int) > 6)) = true then (some 2) else (iter (fun ss_21 : Int => crossref_CheckMemory_l1 p0 ss_21) 0))
/- slices.Equal[[]crossroads/api.Keyed,crossroads/api.Keyed] -/
noncomputable def slices_Equal_Keyed_l1 (p0 : List Keyed) (p1 : List Keyed) (s1 : Int) : Option (Int ⊕ Bool) :=
  (if (decide (s1 < ((p0).length : Int))) = true then (Option.bind (idx p0 s1) fun x4 => (Option.bind (idx p1 s1) fun x5 => (if (!(x4 == x5)) = true then (Option.map Sum.inr (some false)) else (some (.inl (IntKind.i64.wrap (s1 + 1))))))) else (Option.map Sum.inr (some true)))
noncomputable def slices_Equal_Keyed (p0 : List Keyed) (p1 : List Keyed) : Option Bool :=
  (if (((p0).length : Int) != ((p1).length : Int)) = true then (some false) else (iter (fun ss_11 : Int => slices_Equal_Keyed_l1 p0 p1 ss_11) 0))
/- crossroads/crossref.SameMemory -/
noncomputable def crossref_SameMemory (p0 : Memory) (p1 : Memory) : Option Bool :=
  (Option.bind (if (p0.Sum == p1.Sum) = true then (if (p0.Dep == p1.Dep) = true then (Option.bind (slices_Equal_Keyed p0.Keys p1.Keys) fun x1 => (some x1)) else (some false)) else (some false)) fun c2 => (some c2))
/- crossroads/crossref.Lane -/
noncomputable def crossref_Lane (p0 : Item) (p1 : Int) : Option Int :=
  (Option.bind (rem p0.Key p1) fun x2 => (if (decide (x2 < 0)) = true then (some (IntKind.i64.wrap (x2 + p1))) else (some x2)))
end Go.Proofs.Ytegkmfokfakeiaa
