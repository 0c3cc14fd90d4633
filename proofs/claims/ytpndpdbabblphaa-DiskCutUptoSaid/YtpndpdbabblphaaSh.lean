/-
  What the functions compute, as plain functions. Printed by a program of ours (wip/gen.py).
-/
import Derived.Test.YtpndpdbabblphaaData
import Derived.Test.YtpndpdbabblphaaPz
namespace Go.Proofs.Ytpndpdbabblphaa
set_option linter.unusedVariables false
set_option maxRecDepth 100000
/- crossroads/frame.sum -/
noncomputable def frame_sum_l1 (s2 : Int) (s7 : Int) (s8 : Int) : Option ((Int × Int) ⊕ ((Int × Int) ⊕ Int)) :=
  (if (decide (s8 < 8)) = true then (Option.bind (shl .i64 s7 1) fun x10 => (if ((ibits .and .i64 x10 65536) != 0) = true then (some (.inl (ibits .xor .i64 x10 69665, IntKind.i64.wrap (s8 + 1)))) else (some (.inl (x10, IntKind.i64.wrap (s8 + 1)))))) else (Option.map Sum.inr (some (.inl (s7, IntKind.i64.wrap (s2 + 1))))))
noncomputable def frame_sum_l2 (p0 : List UInt8) (s1 : Int) (s2 : Int) : Option ((Int × Int) ⊕ Int) :=
  (if (decide (s2 < ((p0).length : Int))) = true then (Option.bind (idx p0 s2) fun x5 => (Option.bind (shl .i64 (IntKind.i64.wrap (x5.toNat : Int)) 8) fun x6 => (iter (fun ss_28 : Int × Int => frame_sum_l1 s2 ss_28.1 ss_28.2) (ibits .xor .i64 s1 x6, 0)))) else (Option.map Sum.inr (some s1)))
noncomputable def frame_sum (p0 : List UInt8) : Option Int :=
  (iter (fun ss_21 : Int × Int => frame_sum_l2 p0 ss_21.1 ss_21.2) (65535, 0))
/- crossroads/frame.Put -/
noncomputable def frame_Put (p0 : List UInt8) : Option ((List UInt8) × Int) :=
  (if (p0 == []) = true then (some ([], 4)) else (if (decide (((p0).length : Int) > 60)) = true then (some ([], 2)) else (Option.bind (cat (toStr [IntKind.u8.wrap ((p0).length : Int)]) p0) fun x3 => (Option.bind (frame_sum x3) fun x4 => (Option.bind (cat (toStr [IntKind.u8.wrap ((p0).length : Int)]) p0) fun x8 => (Option.bind (shr .i64 x4 8) fun x9 => (Option.bind (cat x8 (toStr [IntKind.u8.wrap x9, IntKind.u8.wrap x4])) fun x10 => (some (x10, 0)))))))))
/- crossroads/frame.Read -/
noncomputable def frame_Read_l1 (p0 : List UInt8) (s1 : Int) (s2 : List (List UInt8)) : Option ((Int × (List (List UInt8))) ⊕ ((List (List UInt8)) × Int × Int)) :=
  (if (decide (s1 < ((p0).length : Int))) = true then (Option.bind (sub p0 s1 ((p0).length : Int)) fun x4 => (Option.bind (idx x4 0) fun x6 => (if ((decide ((IntKind.i64.wrap (x6.toNat : Int)) < 1)) || ((decide ((IntKind.i64.wrap (x6.toNat : Int)) > 60)) || decide (((x4).length : Int) < (IntKind.i64.wrap ((IntKind.i64.wrap (x6.toNat : Int)) + 3))))) = true then (Option.map Sum.inr (some (s2, s1, 0))) else (Option.bind (sub x4 0 (IntKind.i64.wrap ((IntKind.i64.wrap (x6.toNat : Int)) + 1))) fun x10 => (Option.bind (frame_sum x10) fun x11 => (Option.bind (idx x4 (IntKind.i64.wrap ((IntKind.i64.wrap (x6.toNat : Int)) + 1))) fun x15 => (Option.bind (shl .i64 (IntKind.i64.wrap (x15.toNat : Int)) 8) fun x16 => (Option.bind (idx x4 (IntKind.i64.wrap ((IntKind.i64.wrap (x6.toNat : Int)) + 2))) fun x17 => (if ((ibits .or .i64 x16 (IntKind.i64.wrap (x17.toNat : Int))) != x11) = true then (Option.map Sum.inr (some (s2, s1, 0))) else (Option.bind (sub x4 1 (IntKind.i64.wrap ((IntKind.i64.wrap (x6.toNat : Int)) + 1))) fun x20 => (Option.bind (app s2 [x20]) fun x21 => (some (.inl (IntKind.i64.wrap (s1 + (IntKind.i64.wrap ((IntKind.i64.wrap (x6.toNat : Int)) + 3))), x21)))))))))))))) else (Option.map Sum.inr (some (s2, s1, 0))))
noncomputable def frame_Read (p0 : List UInt8) : Option ((List (List UInt8)) × Int × Int) :=
  (if (decide (((p0).length : Int) > 12800)) = true then (some ([], 0, 2)) else (iter (fun ss_12 : Int × (List (List UInt8)) => frame_Read_l1 p0 ss_12.1 ss_12.2) (0, [])))
/- slices.Equal[[]string,string] -/
noncomputable def slices_Equal_string_l1 (p0 : List (List UInt8)) (p1 : List (List UInt8)) (s1 : Int) : Option (Int ⊕ Bool) :=
  (if (decide (s1 < ((p0).length : Int))) = true then (Option.bind (idx p0 s1) fun x4 => (Option.bind (idx p1 s1) fun x5 => (if (!(x4 == x5)) = true then (Option.map Sum.inr (some false)) else (some (.inl (IntKind.i64.wrap (s1 + 1))))))) else (Option.map Sum.inr (some true)))
noncomputable def slices_Equal_string (p0 : List (List UInt8)) (p1 : List (List UInt8)) : Option Bool :=
  (if (((p0).length : Int) != ((p1).length : Int)) = true then (some false) else (iter (fun ss_10 : Int => slices_Equal_string_l1 p0 p1 ss_10) 0))
/- crossroads/crossref.At -/
noncomputable def crossref_At (p0 : Int) (p1 : Int) : Option Int :=
  (Option.bind (rem p0 p1) fun x2 => (if (decide (x2 < 0)) = true then (some (IntKind.i64.wrap (x2 + p1))) else (some x2)))
/- slices.Equal[[]crossroads/api.Choice,crossroads/api.Choice] -/
noncomputable def slices_Equal_Choice_l1 (p0 : List Choice) (p1 : List Choice) (s1 : Int) : Option (Int ⊕ Bool) :=
  (if (decide (s1 < ((p0).length : Int))) = true then (Option.bind (idx p0 s1) fun x4 => (Option.bind (idx p1 s1) fun x5 => (if (!(x4 == x5)) = true then (Option.map Sum.inr (some false)) else (some (.inl (IntKind.i64.wrap (s1 + 1))))))) else (Option.map Sum.inr (some true)))
noncomputable def slices_Equal_Choice (p0 : List Choice) (p1 : List Choice) : Option Bool :=
  (if (((p0).length : Int) != ((p1).length : Int)) = true then (some false) else (iter (fun ss_10 : Int => slices_Equal_Choice_l1 p0 p1 ss_10) 0))
/- slices.Clone[[]string,string] -/
def slices_Clone_string (p0 : List (List UInt8)) : Option (List (List UInt8)) := app [] p0
/- slices.Clone[[]crossroads/api.Write,crossroads/api.Write] -/
def slices_Clone_Write (p0 : List Write) : Option (List Write) := app [] p0
/- crossroads/disk.Check -/
noncomputable def disk_Check_l1 (p0 : Disk) (s5 : Int) : Option (Int ⊕ Int) :=
  (if (decide (s5 < ((p0.Wait).length : Int))) = true then (Option.bind (idx p0.Wait s5) fun x7 => (if ((decide (x7.At < 0)) || decide (x7.At ≥ 200)) = true then (Option.map Sum.inr (some 3)) else (if (decide (((x7.Bytes).length : Int) > 64)) = true then (Option.map Sum.inr (some 2)) else (some (.inl (IntKind.i64.wrap (s5 + 1))))))) else (Option.map Sum.inr (some 0)))
noncomputable def disk_Check_l2 (p0 : Disk) (s2 : Int) : Option (Int ⊕ Int) :=
  (if (decide (s2 < ((p0.Sectors).length : Int))) = true then (Option.bind (idx p0.Sectors s2) fun x4 => (if (decide (((x4).length : Int) > 64)) = true then (Option.map Sum.inr (some 2)) else (some (.inl (IntKind.i64.wrap (s2 + 1)))))) else (Option.map Sum.inr (iter (fun ss_21 : Int => disk_Check_l1 p0 ss_21) 0)))
noncomputable def disk_Check (p0 : Disk) : Option Int :=
  (if ((decide (((p0.Sectors).length : Int) > 200)) || decide (((p0.Wait).length : Int) > 300)) = true then (some 2) else (iter (fun ss_7 : Int => disk_Check_l2 p0 ss_7) 0))
/- crossroads/disk.Read -/
noncomputable def disk_Read_l1 (p0 : Disk) (p1 : Int) (s6 : List UInt8) (s7 : Int) : Option (((List UInt8) × Int) ⊕ ((List UInt8) × Int)) :=
  (if (decide (s7 < ((p0.Wait).length : Int))) = true then (Option.bind (idx p0.Wait s7) fun x9 => (if (x9.At == p1) = true then (some (.inl (x9.Bytes, IntKind.i64.wrap (s7 + 1)))) else (some (.inl (s6, IntKind.i64.wrap (s7 + 1)))))) else (Option.map Sum.inr (some (s6, 0))))
noncomputable def disk_Read_k2 (p0 : Disk) (p1 : Int) (z5 : List UInt8) : Option ((List UInt8) × Int) :=
  (iter (fun ss_10 : (List UInt8) × Int => disk_Read_l1 p0 p1 ss_10.1 ss_10.2) (z5, 0))
noncomputable def disk_Read (p0 : Disk) (p1 : Int) : Option ((List UInt8) × Int) :=
  (Option.bind (disk_Check p0) fun x2 => (if (x2 != 0) = true then (some ([], x2)) else (if ((decide (p1 < 0)) || decide (p1 ≥ 200)) = true then (some ([], 3)) else (if (decide (p1 < ((p0.Sectors).length : Int))) = true then (Option.bind (idx p0.Sectors p1) fun x4 => (disk_Read_k2 p0 p1 x4)) else (disk_Read_k2 p0 p1 [])))))
/- crossroads/crossref.CheckDisk -/
noncomputable def crossref_CheckDisk_l1 (p0 : Disk) (s5 : Int) : Option (Int ⊕ Int) :=
  (if (decide (s5 < ((p0.Wait).length : Int))) = true then (Option.bind (idx p0.Wait s5) fun x7 => (if ((decide (x7.At < 0)) || decide (x7.At > 199)) = true then (Option.map Sum.inr (some 3)) else (if (decide (((x7.Bytes).length : Int) > 64)) = true then (Option.map Sum.inr (some 2)) else (some (.inl (IntKind.i64.wrap (s5 + 1))))))) else (Option.map Sum.inr (some 0)))
noncomputable def crossref_CheckDisk_l2 (p0 : Disk) (s2 : Int) : Option (Int ⊕ Int) :=
  (if (decide (s2 < ((p0.Sectors).length : Int))) = true then (Option.bind (idx p0.Sectors s2) fun x4 => (if (decide (((x4).length : Int) > 64)) = true then (Option.map Sum.inr (some 2)) else (some (.inl (IntKind.i64.wrap (s2 + 1)))))) else (Option.map Sum.inr (iter (fun ss_21 : Int => crossref_CheckDisk_l1 p0 ss_21) 0)))
noncomputable def crossref_CheckDisk (p0 : Disk) : Option Int :=
  (if ((decide (((p0.Sectors).length : Int) > 200)) || decide (((p0.Wait).length : Int) > 300)) = true then (some 2) else (iter (fun ss_7 : Int => crossref_CheckDisk_l2 p0 ss_7) 0))
/- crossroads/disk.Write -/
noncomputable def disk_Write (p0 : Disk) (p1 : Int) (p2 : List UInt8) : Option (Disk × Int) :=
  (Option.bind (disk_Check p0) fun x2 => (if (x2 != 0) = true then (some ((⟨[], []⟩ : Disk), x2)) else (if ((decide (p1 < 0)) || decide (p1 ≥ 200)) = true then (some ((⟨[], []⟩ : Disk), 3)) else (if (decide (((p2).length : Int) > 64)) = true then (some ((⟨[], []⟩ : Disk), 2)) else (if (((p0.Wait).length : Int) == 300) = true then (some ((⟨[], []⟩ : Disk), 8)) else (Option.bind (slices_Clone_string p0.Sectors) fun x7 => (Option.bind (slices_Clone_Write p0.Wait) fun x8 => (Option.bind (app x8 [(⟨p1, p2⟩ : Write)]) fun x9 => (some ((⟨x7, x9⟩ : Disk), 0))))))))))
/- crossroads/disk.put -/
noncomputable def disk_put_x866e_l1 (s1 : Int) (x4 : Write) (s5 : List (List UInt8)) : Option ((List (List UInt8)) ⊕ ((Int × (List (List UInt8))) ⊕ (List (List UInt8)))) :=
  (if (decide (((s5).length : Int) ≤ x4.At)) = true then (Option.bind (app s5 [[]]) fun x6 => (some (.inl x6))) else (Option.map Sum.inr (Option.bind (ixN s5 x4.At) fun x7 => (Option.bind ((s5)[x7]?) fun x8 => (some (.inl (IntKind.i64.wrap (s1 + 1), (List.set s5 x7 x4.Bytes))))))))
noncomputable def disk_put_x866e_l2 (p0 : List Write) (s1 : Int) (s2 : List (List UInt8)) : Option ((Int × (List (List UInt8))) ⊕ (List (List UInt8))) :=
  (if (decide (s1 < ((p0).length : Int))) = true then (Option.bind (idx p0 s1) fun x4 => (iter (fun ss_20 : List (List UInt8) => disk_put_x866e_l1 s1 x4 ss_20) s2)) else (Option.map Sum.inr (some s2)))
noncomputable def disk_put_x866e (p0 : List Write) (p1 : List (List UInt8)) : Option (List (List UInt8)) :=
  (iter (fun ss_15 : Int × (List (List UInt8)) => disk_put_x866e_l2 p0 ss_15.1 ss_15.2) (0, p1))
/- crossroads/disk.Cut -/
noncomputable def disk_Cut (p0 : Disk) (p1 : Int) : Option (Disk × Int) :=
  (Option.bind (disk_Check p0) fun x2 => (if (x2 != 0) = true then (some ((⟨[], []⟩ : Disk), x2)) else (if ((decide (p1 < 0)) || decide (p1 > ((p0.Wait).length : Int))) = true then (some ((⟨[], []⟩ : Disk), 3)) else (Option.bind (slices_Clone_string p0.Sectors) fun x7 => (Option.bind (sub p0.Wait 0 p1) fun x8 => (Option.bind (disk_put_x866e x8 x7) fun x9 => (some ((⟨x9, []⟩ : Disk), 0))))))))
/- crossroads/crosslaw.disked -/
noncomputable def crosslaw_disked : Option Bool :=
  (Option.bind (disk_Write (⟨[], []⟩ : Disk) (1 : Int) ([97] : List UInt8)) fun x2 => (Option.bind (disk_Write x2.1 (0 : Int) ([98] : List UInt8)) fun x4 => (Option.bind (disk_Read x4.1 (0 : Int)) fun x6 => (Option.bind (disk_Cut x4.1 (1 : Int)) fun x8 => (Option.bind (if (x2.2 == 0) = true then (if (x4.2 == 0) = true then (if (x6.2 == 0) = true then (if (x8.2 == 0) = true then (if (x6.1 == [98]) = true then (Option.bind (slices_Equal_string x8.1.Sectors ([[], [97]] : List (List UInt8))) fun x9 => (if x9 = true then (some (((x8.1.Wait).length : Int) == 0)) else (some false))) else (some false)) else (some false)) else (some false)) else (some false)) else (some false)) fun c10 => (some c10))))))
/- slices.Equal[[]crossroads/api.Write,crossroads/api.Write] -/
noncomputable def slices_Equal_Write_l1 (p0 : List Write) (p1 : List Write) (s1 : Int) : Option (Int ⊕ Bool) :=
  (if (decide (s1 < ((p0).length : Int))) = true then (Option.bind (idx p0 s1) fun x4 => (Option.bind (idx p1 s1) fun x5 => (if (!(x4 == x5)) = true then (Option.map Sum.inr (some false)) else (some (.inl (IntKind.i64.wrap (s1 + 1))))))) else (Option.map Sum.inr (some true)))
noncomputable def slices_Equal_Write (p0 : List Write) (p1 : List Write) : Option Bool :=
  (if (((p0).length : Int) != ((p1).length : Int)) = true then (some false) else (iter (fun ss_10 : Int => slices_Equal_Write_l1 p0 p1 ss_10) 0))
/- crossroads/crossref.SameDisk -/
noncomputable def crossref_SameDisk (p0 : Disk) (p1 : Disk) : Option Bool :=
  (Option.bind (slices_Equal_string p0.Sectors p1.Sectors) fun x1 => (Option.bind (if x1 = true then (Option.bind (slices_Equal_Write p0.Wait p1.Wait) fun x2 => (some x2)) else (some false)) fun c3 => (some c3)))
/- crossroads/crosslaw.noDisk -/
noncomputable def crosslaw_noDisk (p0 : Disk) : Option Bool :=
  (Option.bind (crossref_SameDisk p0 (⟨[], []⟩ : Disk)) fun x2 => (some x2))
/- crossroads/crossref.Done -/
noncomputable def crossref_Done_l1 (s5 : Int) (s7 : List (Int × (List UInt8))) (s10 : Int) (s11 : List (List UInt8)) : Option ((Int × (List (List UInt8))) ⊕ (List (List UInt8))) :=
  (if (decide (s10 < s5)) = true then (Option.bind (app s11 [((mget s10 s7).getD [])]) fun x12 => (some (.inl (IntKind.i64.wrap (s10 + 1), x12)))) else (Option.map Sum.inr (some s11)))
noncomputable def crossref_Done_l2 (p1 : List Write) (s5 : Int) (s6 : Int) (s7 : List (Int × (List UInt8))) : Option ((Int × Int × (List (Int × (List UInt8)))) ⊕ (List (List UInt8))) :=
  (if (decide (s6 < ((p1).length : Int))) = true then (Option.bind (idx p1 s6) fun x9 => (some (.inl ((if (IntKind.i64.wrap (x9.At + 1)) > s5 then (IntKind.i64.wrap (x9.At + 1)) else s5), IntKind.i64.wrap (s6 + 1), (mset x9.At x9.Bytes s7))))) else (Option.map Sum.inr (iter (fun ss_15 : Int × (List (List UInt8)) => crossref_Done_l1 s5 s7 ss_15.1 ss_15.2) (0, []))))
noncomputable def crossref_Done_l3 (p0 : List (List UInt8)) (p1 : List Write) (s1 : Int) (s2 : List (Int × (List UInt8))) : Option ((Int × (List (Int × (List UInt8)))) ⊕ (List (List UInt8))) :=
  (if (decide (s1 < ((p0).length : Int))) = true then (Option.bind (idx p0 s1) fun x4 => (some (.inl (IntKind.i64.wrap (s1 + 1), (mset s1 x4 s2))))) else (Option.map Sum.inr (iter (fun ss_9 : Int × Int × (List (Int × (List UInt8))) => crossref_Done_l2 p1 ss_9.1 ss_9.2.1 ss_9.2.2) (((p0).length : Int), 0, s2))))
noncomputable def crossref_Done (p0 : List (List UInt8)) (p1 : List Write) : Option (List (List UInt8)) :=
  (iter (fun ss_3 : Int × (List (Int × (List UInt8))) => crossref_Done_l3 p0 p1 ss_3.1 ss_3.2) (0, ([] : List (Int × (List UInt8)))))
/- crossroads/disk.Flush -/
noncomputable def disk_Flush (p0 : Disk) : Option (Disk × Int) :=
  (Option.bind (disk_Cut p0 ((p0.Wait).length : Int)) fun x2 => (some (x2.1, x2.2)))
/- crossroads/crosslaw.DiskSeen -/
noncomputable def crosslaw_DiskSeen (p0 : Disk) (p1 : Int) (p2 : Int) : Option Bool :=
  (Option.bind (disk_Read p0 p1) fun x2 => (Option.bind (disk_Flush p0) fun x4 => (Option.bind crosslaw_disked fun x5 => (if ((!x5) || ((x2.2 != 0) || x4.2 != 0)) = true then (Option.bind crosslaw_disked fun x8 => (some x8)) else (Option.bind (disk_Read x4.1 p1) fun x10 => (if ((x10.2 != 0) || !(x2.1 == x10.1)) = true then (some false) else (Option.bind (crossref_At p2 (IntKind.i64.wrap (((p0.Wait).length : Int) + 1))) fun x13 => (Option.bind (disk_Cut p0 x13) fun x15 => (Option.bind (sub p0.Wait x13 ((p0.Wait).length : Int)) fun x18 => (Option.bind (disk_Flush (⟨x15.1.Sectors, x18⟩ : Disk)) fun x19 => (Option.bind (if (x15.2 == 0) = true then (if (x19.2 == 0) = true then (Option.bind (slices_Equal_string x19.1.Sectors x4.1.Sectors) fun x20 => (some x20)) else (some false)) else (some false)) fun c21 => (some c21))))))))))))
/- crossroads/disk.put -/
noncomputable def disk_put_x7df1_l1 (s1 : Int) (x6 : Write) (s7 : List (List UInt8)) : Option ((List (List UInt8)) ⊕ ((Int × (List (List UInt8))) ⊕ (List (List UInt8)))) :=
  (if (decide (((s7).length : Int) ≤ x6.At)) = true then (Option.bind (app s7 [[]]) fun x8 => (some (.inl x8))) else (Option.map Sum.inr (Option.bind (ixN s7 x6.At) fun x9 => (Option.bind ((s7)[x9]?) fun x10 => (some (.inl (IntKind.i64.wrap (s1 + 1), (List.set s7 x9 x6.Bytes))))))))
noncomputable def disk_put_x7df1_l2 (p1 : List Write) (s1 : Int) (s2 : List (List UInt8)) : Option ((Int × (List (List UInt8))) ⊕ (List (List UInt8))) :=
  (if (decide (s1 < ((p1).length : Int))) = true then (Option.bind (ixN p1 s1) fun x5 => (Option.bind ((p1)[x5]?) fun x6 => (iter (fun ss_20 : List (List UInt8) => disk_put_x7df1_l1 s1 x6 ss_20) s2))) else (Option.map Sum.inr (some s2)))
noncomputable def disk_put_x7df1 (p0 : List (List UInt8)) (p1 : List Write) : Option (List (List UInt8)) :=
  (iter (fun ss_15 : Int × (List (List UInt8)) => disk_put_x7df1_l2 p1 ss_15.1 ss_15.2) (0, p0))
/- crossroads/disk.Some -/
noncomputable def disk_Some_l1 (p0 : Disk) (p1 : List Int) (s5 : Int) (s6 : Int) (s7 : List (List UInt8)) : Option ((Int × Int × (List (List UInt8))) ⊕ (Disk × Int)) :=
  (if (decide (s6 < ((p1).length : Int))) = true then (Option.bind (idx p1 s6) fun x9 => (if ((decide (x9 < 0)) || decide (x9 ≥ ((p0.Wait).length : Int))) = true then (Option.map Sum.inr (some ((⟨[], []⟩ : Disk), 3))) else (if (decide (x9 ≤ s5)) = true then (Option.map Sum.inr (some ((⟨[], []⟩ : Disk), 4))) else (Option.bind (idx p0.Wait x9) fun x11 => (Option.bind (disk_put_x7df1 s7 ([x11] : List Write)) fun x12 => (some (.inl (x9, IntKind.i64.wrap (s6 + 1), x12)))))))) else (Option.map Sum.inr (some ((⟨s7, []⟩ : Disk), 0))))
noncomputable def disk_Some (p0 : Disk) (p1 : List Int) : Option (Disk × Int) :=
  (Option.bind (disk_Check p0) fun x2 => (if (x2 != 0) = true then (some ((⟨[], []⟩ : Disk), x2)) else (Option.bind (slices_Clone_string p0.Sectors) fun x4 => (iter (fun ss_10 : Int × Int × (List (List UInt8)) => disk_Some_l1 p0 p1 ss_10.1 ss_10.2.1 ss_10.2.2) ((-1), 0, x4)))))
/- crossroads/crosslaw.DiskSome -/
noncomputable def crosslaw_DiskSome_l1 (p0 : Disk) (p1 : Int) (x2 : Disk × Int) (s7 : Int) (s8 : List Int) : Option ((Int × (List Int)) ⊕ Bool) :=
  (if (decide (s7 < ((p0.Wait).length : Int))) = true then (Option.bind (app s8 [s7]) fun x9 => (some (.inl (IntKind.i64.wrap (s7 + 1), x9)))) else (Option.map Sum.inr (Option.bind (disk_Some p0 s8) fun x13 => (Option.bind (crossref_At p1 (IntKind.i64.wrap (((p0.Wait).length : Int) + 1))) fun x15 => (Option.bind (sub s8 0 x15) fun x18 => (Option.bind (disk_Some p0 x18) fun x19 => (Option.bind (disk_Cut p0 x15) fun x21 => (Option.bind (disk_Some p0 ([] : List Int)) fun x23 => (Option.bind (if (x13.2 == 0) = true then (if (x19.2 == 0) = true then (if (x21.2 == 0) = true then (if (x23.2 == 0) = true then (Option.bind (crossref_SameDisk x13.1 x2.1) fun x24 => (if x24 = true then (Option.bind (crossref_SameDisk x19.1 x21.1) fun x25 => (if x25 = true then (Option.bind (slices_Equal_string x23.1.Sectors p0.Sectors) fun x26 => (some x26)) else (some false))) else (some false))) else (some false)) else (some false)) else (some false)) else (some false)) fun c27 => (some c27))))))))))
noncomputable def crosslaw_DiskSome (p0 : Disk) (p1 : Int) : Option Bool :=
  (Option.bind (disk_Flush p0) fun x2 => (Option.bind crosslaw_disked fun x3 => (if ((!x3) || x2.2 != 0) = true then (Option.bind crosslaw_disked fun x6 => (some x6)) else (iter (fun ss_5 : Int × (List Int) => crosslaw_DiskSome_l1 p0 p1 x2 ss_5.1 ss_5.2) (0, [])))))
/- strings.Join -/
def strings_Join (p0 : List (List UInt8)) (p1 : List UInt8) : Option (List UInt8) := joinB p0 p1
/- crossroads/disk.All -/
noncomputable def disk_All (p0 : Disk) : Option ((List UInt8) × Int) :=
  (Option.bind (disk_Check p0) fun x2 => (if (x2 != 0) = true then (some ([], x2)) else (Option.bind (strings_Join p0.Sectors ([] : List UInt8)) fun x4 => (some (x4, 0)))))
/- crossroads/crosslaw.DiskCut -/
noncomputable def crosslaw_DiskCut_l1 (p0 : Disk) (p2 : List Int) (x6 : Disk × Int) (s33 : Int) (s34 : List Write) : Option ((Int × (List Write)) ⊕ Bool) :=
  (if (decide (s33 < ((p2).length : Int))) = true then (Option.bind (idx p2 s33) fun x36 => (if ((decide (x36 < 0)) || decide (x36 ≥ ((p0.Wait).length : Int))) = true then (Option.bind (if (x6.2 == 3) = true then (Option.bind (crosslaw_noDisk x6.1) fun x38 => (some x38)) else (some false)) fun c39 => (Option.map Sum.inr (some c39))) else (Option.bind (if (decide (s33 > 0)) = true then (Option.bind (idx p2 (IntKind.i64.wrap (s33 - 1))) fun x40 => (some (decide (x36 ≤ x40)))) else (some false)) fun c41 => (if c41 = true then (Option.bind (if (x6.2 == 4) = true then (Option.bind (crosslaw_noDisk x6.1) fun x42 => (some x42)) else (some false)) fun c43 => (Option.map Sum.inr (some c43))) else (Option.bind (idx p0.Wait x36) fun x44 => (Option.bind (app s34 [x44]) fun x45 => (some (.inl (IntKind.i64.wrap (s33 + 1), x45))))))))) else (Option.map Sum.inr (Option.bind (if (x6.2 == 0) = true then (Option.bind (crossref_Done p0.Sectors s34) fun x46 => (Option.bind (crossref_SameDisk x6.1 (⟨x46, []⟩ : Disk)) fun x47 => (some x47))) else (some false)) fun c48 => (some c48))))
noncomputable def crosslaw_DiskCut_k2 (p0 : Disk) (p2 : List Int) (x6 : Disk × Int) : Option Bool :=
  (iter (fun ss_58 : Int × (List Write) => crosslaw_DiskCut_l1 p0 p2 x6 ss_58.1 ss_58.2) (0, []))
noncomputable def crosslaw_DiskCut_l3 (p0 : Disk) (p1 : Int) (p2 : List Int) (x2 : Disk × Int) (x4 : Disk × Int) (x6 : Disk × Int) (x8 : (List UInt8) × Int) (s18 : List UInt8) (s19 : Int) : Option (((List UInt8) × Int) ⊕ Bool) :=
  (if (decide (s19 < ((p0.Sectors).length : Int))) = true then (Option.bind (idx p0.Sectors s19) fun x21 => (Option.bind (cat s18 x21) fun x22 => (some (.inl (x22, IntKind.i64.wrap (s19 + 1)))))) else (Option.map Sum.inr (Option.bind (if (x8.2 != 0) = true then (some true) else (if (!(x8.1 == s18)) = true then (some true) else (if (x4.2 != 0) = true then (some true) else (Option.bind (crossref_Done p0.Sectors p0.Wait) fun x23 => (Option.bind (crossref_SameDisk x4.1 (⟨x23, []⟩ : Disk)) fun x24 => (some (!x24))))))) fun c25 => (if c25 = true then (some false) else (if ((decide (p1 < 0)) || decide (p1 > ((p0.Wait).length : Int))) = true then (Option.bind (if (x2.2 != 3) = true then (some true) else (Option.bind (crosslaw_noDisk x2.1) fun x27 => (some (!x27)))) fun c28 => (if c28 = true then (some false) else (crosslaw_DiskCut_k2 p0 p2 x6))) else (Option.bind (if (x2.2 != 0) = true then (some true) else (Option.bind (sub p0.Wait 0 p1) fun x29 => (Option.bind (crossref_Done p0.Sectors x29) fun x30 => (Option.bind (crossref_SameDisk x2.1 (⟨x30, []⟩ : Disk)) fun x31 => (some (!x31)))))) fun c32 => (if c32 = true then (some false) else (crosslaw_DiskCut_k2 p0 p2 x6))))))))
noncomputable def crosslaw_DiskCut (p0 : Disk) (p1 : Int) (p2 : List Int) : Option Bool :=
  (Option.bind (disk_Cut p0 p1) fun x2 => (Option.bind (disk_Flush p0) fun x4 => (Option.bind (disk_Some p0 p2) fun x6 => (Option.bind (disk_All p0) fun x8 => (Option.bind (crossref_CheckDisk p0) fun x10 => (Option.bind crosslaw_disked fun x11 => (if ((!x11) || x10 != 0) = true then (Option.bind crosslaw_disked fun x13 => (Option.bind (if x13 = true then (if (x2.2 == x10) = true then (if (x4.2 == x10) = true then (if (x6.2 == x10) = true then (if (x8.2 == x10) = true then (Option.bind (crosslaw_noDisk x2.1) fun x14 => (if x14 = true then (Option.bind (crosslaw_noDisk x4.1) fun x15 => (if x15 = true then (Option.bind (crosslaw_noDisk x6.1) fun x16 => (if x16 = true then (some (x8.1 == [])) else (some false))) else (some false))) else (some false))) else (some false)) else (some false)) else (some false)) else (some false)) else (some false)) fun c17 => (some c17))) else (iter (fun ss_14 : (List UInt8) × Int => crosslaw_DiskCut_l3 p0 p1 p2 x2 x4 x6 x8 ss_14.1 ss_14.2) ([], 0)))))))))
end Go.Proofs.Ytpndpdbabblphaa
