/-
  The program's data as values; that they name no place.
-/
import Derived.Test.YtegkmfokfakeiaaCore
import Derived.Test.YtegkmfokfakeiaaData
import Derived.Test.YtegkmfokfakeiaaOq
namespace Go.Proofs.Ytegkmfokfakeiaa
open Go.RowKit
set_option linter.unusedVariables false
set_option linter.unusedSimpArgs false
def enc8 (n : Int) : List AV := [.int .u8 n]
def encU (n : Int) : List AV := [.int .u64 n]
def encB (b : Bool) : List AV := [.bool b]
def encL {α : Type} (en : α → List AV) (l : List α) : List AV := [.sl (l.map en)]
def encItem (a : Item) : List AV := [.int .i64 a.Key, .int .i64 a.Val, .int .i64 a.Dep]
def encNode (a : Node) : List AV := [.int .i64 a.Kind, .int .i64 a.A, .sl (a.In.map encI), .sl (a.Out.map encI)]
def encNet (a : Net) : List AV := [.sl (a.Nodes.map encNode), .int .i64 a.Rings, .int .i64 a.Room]
def encKeyed (a : Keyed) : List AV := [.int .i64 a.Key, .int .i64 a.N]
def encMemory (a : Memory) : List AV := [.int .i64 a.Sum, .sl (a.Keys.map encKeyed), .int .i64 a.Dep]
def encChoice (a : Choice) : List AV := [.int .i64 a.Node, .int .i64 a.Lane]
def encState (a : State) : List AV := [.sl (a.At.map encI), .sl (a.Rings.map (encL encItem)), .sl (a.Memory.map encMemory), .sl (a.Choices.map encChoice), .sl (a.Out.map encItem)]
def encMove (a : Move) : List AV := [.int .i64 a.Node, .int .i64 a.Lane]
def encWrite (a : Write) : List AV := [.int .i64 a.At, .str a.Bytes]
def encDisk (a : Disk) : List AV := [.sl (a.Sectors.map encS), .sl (a.Wait.map encWrite)]
def encShop (a : Shop) : List AV := [.sl (a.N.Nodes.map encNode), .int .i64 a.N.Rings, .int .i64 a.N.Room, .sl (a.Items.map (encL encItem)), .sl (a.S.At.map encI), .sl (a.S.Rings.map (encL encItem)), .sl (a.S.Memory.map encMemory), .sl (a.S.Choices.map encChoice), .sl (a.S.Out.map encItem), .sl (a.D.Sectors.map encS), .sl (a.D.Wait.map encWrite), .int .i64 a.Logged, .int .i64 a.Safe, .int .i64 a.Epoch, .int .i64 a.Laid, .int .i64 a.Next, .sl (a.Told.map encItem), .bool a.Down]
def encHappening (a : Happening) : List AV := [.int .i64 a.Kind, .int .i64 a.N]
def encEnds (a : Ends) : List AV := [.int .i64 a.src, .int .i64 a.dst]
theorem encI_p : ∀ a x, x ∈ encI a → Pure x := fun a => pures_mem (ls := encI a) ⟨pure_int _ _, trivial⟩
theorem enc8_p : ∀ a x, x ∈ enc8 a → Pure x := fun a => pures_mem (ls := enc8 a) ⟨pure_int _ _, trivial⟩
theorem encU_p : ∀ a x, x ∈ encU a → Pure x := fun a => pures_mem (ls := encU a) ⟨pure_int _ _, trivial⟩
theorem encB_p : ∀ a x, x ∈ encB a → Pure x := fun a => pures_mem (ls := encB a) ⟨pure_bool _, trivial⟩
theorem encS_p : ∀ a x, x ∈ encS a → Pure x := fun a => pures_mem (ls := encS a) ⟨pure_str _, trivial⟩
theorem encL_p {α : Type} {en : α → List AV} (h : ∀ a x, x ∈ en a → Pure x) : ∀ a x, x ∈ encL en a → Pure x := fun a => pures_mem (ls := encL en a) ⟨pure_map h _, trivial⟩
theorem encItem_p : ∀ a x, x ∈ encItem a → Pure x := fun a => pures_mem (ls := encItem a) ⟨pure_int _ _, pure_int _ _, pure_int _ _, trivial⟩
theorem encNode_p : ∀ a x, x ∈ encNode a → Pure x := fun a => pures_mem (ls := encNode a) ⟨pure_int _ _, pure_int _ _, pure_map encI_p _, pure_map encI_p _, trivial⟩
theorem encNet_p : ∀ a x, x ∈ encNet a → Pure x := fun a => pures_mem (ls := encNet a) ⟨pure_map encNode_p _, pure_int _ _, pure_int _ _, trivial⟩
theorem encKeyed_p : ∀ a x, x ∈ encKeyed a → Pure x := fun a => pures_mem (ls := encKeyed a) ⟨pure_int _ _, pure_int _ _, trivial⟩
theorem encMemory_p : ∀ a x, x ∈ encMemory a → Pure x := fun a => pures_mem (ls := encMemory a) ⟨pure_int _ _, pure_map encKeyed_p _, pure_int _ _, trivial⟩
theorem encChoice_p : ∀ a x, x ∈ encChoice a → Pure x := fun a => pures_mem (ls := encChoice a) ⟨pure_int _ _, pure_int _ _, trivial⟩
theorem encState_p : ∀ a x, x ∈ encState a → Pure x := fun a => pures_mem (ls := encState a) ⟨pure_map encI_p _, pure_map (encL_p encItem_p) _, pure_map encMemory_p _, pure_map encChoice_p _, pure_map encItem_p _, trivial⟩
theorem encMove_p : ∀ a x, x ∈ encMove a → Pure x := fun a => pures_mem (ls := encMove a) ⟨pure_int _ _, pure_int _ _, trivial⟩
theorem encWrite_p : ∀ a x, x ∈ encWrite a → Pure x := fun a => pures_mem (ls := encWrite a) ⟨pure_int _ _, pure_str _, trivial⟩
theorem encDisk_p : ∀ a x, x ∈ encDisk a → Pure x := fun a => pures_mem (ls := encDisk a) ⟨pure_map encS_p _, pure_map encWrite_p _, trivial⟩
theorem encShop_p : ∀ a x, x ∈ encShop a → Pure x := fun a => pures_mem (ls := encShop a) ⟨pure_map encNode_p _, pure_int _ _, pure_int _ _, pure_map (encL_p encItem_p) _, pure_map encI_p _, pure_map (encL_p encItem_p) _, pure_map encMemory_p _, pure_map encChoice_p _, pure_map encItem_p _, pure_map encS_p _, pure_map encWrite_p _, pure_int _ _, pure_int _ _, pure_int _ _, pure_int _ _, pure_int _ _, pure_map encItem_p _, pure_bool _, trivial⟩
theorem encHappening_p : ∀ a x, x ∈ encHappening a → Pure x := fun a => pures_mem (ls := encHappening a) ⟨pure_int _ _, pure_int _ _, trivial⟩
theorem encEnds_p : ∀ a x, x ∈ encEnds a → Pure x := fun a => pures_mem (ls := encEnds a) ⟨pure_int _ _, pure_int _ _, trivial⟩
theorem encItem_eq (x y : Item) : eqCells (encItem x) (encItem y) = some (x == y) := by
  cases x; cases y
  simp only [encItem, eqCells, Option.map_some, Option.some.injEq]
  rw [Bool.eq_iff_iff]
  simp
theorem encKeyed_eq (x y : Keyed) : eqCells (encKeyed x) (encKeyed y) = some (x == y) := by
  cases x; cases y
  simp only [encKeyed, eqCells, Option.map_some, Option.some.injEq]
  rw [Bool.eq_iff_iff]
  simp
theorem encChoice_eq (x y : Choice) : eqCells (encChoice x) (encChoice y) = some (x == y) := by
  cases x; cases y
  simp only [encChoice, eqCells, Option.map_some, Option.some.injEq]
  rw [Bool.eq_iff_iff]
  simp
theorem encMove_eq (x y : Move) : eqCells (encMove x) (encMove y) = some (x == y) := by
  cases x; cases y
  simp only [encMove, eqCells, Option.map_some, Option.some.injEq]
  rw [Bool.eq_iff_iff]
  simp
theorem encWrite_eq (x y : Write) : eqCells (encWrite x) (encWrite y) = some (x == y) := by
  cases x; cases y
  simp only [encWrite, eqCells, Option.map_some, Option.some.injEq]
  rw [Bool.eq_iff_iff]
  simp
theorem encHappening_eq (x y : Happening) : eqCells (encHappening x) (encHappening y) = some (x == y) := by
  cases x; cases y
  simp only [encHappening, eqCells, Option.map_some, Option.some.injEq]
  rw [Bool.eq_iff_iff]
  simp
theorem encEnds_eq (x y : Ends) : eqCells (encEnds x) (encEnds y) = some (x == y) := by
  cases x; cases y
  simp only [encEnds, eqCells, Option.map_some, Option.some.injEq]
  rw [Bool.eq_iff_iff]
  simp
instance : EnP encI := ⟨encI_p⟩
instance : EnP enc8 := ⟨enc8_p⟩
instance : EnP encU := ⟨encU_p⟩
instance : EnP encB := ⟨encB_p⟩
instance : EnP encS := ⟨encS_p⟩
instance : EnP encItem := ⟨encItem_p⟩
instance : EnP encNode := ⟨encNode_p⟩
instance : EnP encNet := ⟨encNet_p⟩
instance : EnP encKeyed := ⟨encKeyed_p⟩
instance : EnP encMemory := ⟨encMemory_p⟩
instance : EnP encChoice := ⟨encChoice_p⟩
instance : EnP encState := ⟨encState_p⟩
instance : EnP encMove := ⟨encMove_p⟩
instance : EnP encWrite := ⟨encWrite_p⟩
instance : EnP encDisk := ⟨encDisk_p⟩
instance : EnP encShop := ⟨encShop_p⟩
instance : EnP encHappening := ⟨encHappening_p⟩
instance : EnP encEnds := ⟨encEnds_p⟩
instance {α : Type} {en : α → List AV} [h : EnP en] : EnP (encL en) := ⟨encL_p h.out⟩
theorem bool_cases (b : Bool) : b = true ∨ b = false := by cases b <;> simp
end Go.Proofs.Ytegkmfokfakeiaa
