/-
  The program's data as plain structures. No memory, no program in sight.
-/
import Derived.Test.YtegkmfokfakeiaaPl
namespace Go.Proofs.Ytegkmfokfakeiaa
structure Item where
  (Key Val Dep : Int)
deriving DecidableEq
structure Node where
  (Kind A : Int)
  (In Out : List Int)
deriving DecidableEq
structure Net where
  Nodes : List Node
  (Rings Room : Int)
deriving DecidableEq
structure Keyed where
  (Key N : Int)
deriving DecidableEq
structure Memory where
  Sum : Int
  Keys : List Keyed
  Dep : Int
deriving DecidableEq
structure Choice where
  (Node Lane : Int)
deriving DecidableEq
structure State where
  At : List Int
  Rings : List (List Item)
  Memory : List Memory
  Choices : List Choice
  Out : List Item
deriving DecidableEq
structure Move where
  (Node Lane : Int)
deriving DecidableEq
structure Write where
  At : Int
  Bytes : List UInt8
deriving DecidableEq
structure Disk where
  Sectors : List (List UInt8)
  Wait : List Write
deriving DecidableEq
structure Shop where
  N : Net
  Items : List (List Item)
  S : State
  D : Disk
  (Logged Safe Epoch Laid Next : Int)
  Told : List Item
  Down : Bool
deriving DecidableEq
structure Happening where
  (Kind N : Int)
deriving DecidableEq
structure Ends where
  (src dst : Int)
deriving DecidableEq
end Go.Proofs.Ytegkmfokfakeiaa
