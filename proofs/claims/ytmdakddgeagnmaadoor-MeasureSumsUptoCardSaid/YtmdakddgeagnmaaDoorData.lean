/- Plain data of the program vellum: values, attributes, operations, pieces; nothing of Go or memory. -/
import Derived.WalkKit
set_option linter.all false
namespace Ve
/-- A value as plain data. -/
structure Plain where
  kind : Int
  num : Int
  text : ByteArray
  deriving DecidableEq
/-- An attribute. -/
structure Attr where
  key : ByteArray
  val : Plain
  deriving DecidableEq
/-- An operation as plain data. -/
structure Op where
  kind : Int
  text : ByteArray
  val : Plain
  count : Int
  attrs : List Attr
  deriving DecidableEq
/-- A piece of a delta. -/
inductive Piece where
  | ins (attrs : List Attr) (text : ByteArray) (len : Int)
  | emb (attrs : List Attr) (kind : ByteArray) (val : Plain)
  | ret (attrs : List Attr) (count : Int)
  | del (count : Int)
  deriving DecidableEq
instance : Inhabited Plain := ⟨⟨0, 0, ⟨#[]⟩⟩⟩
instance : Inhabited Attr := ⟨⟨⟨#[]⟩, default⟩⟩
instance : Inhabited Op := ⟨⟨0, ⟨#[]⟩, default, 0, []⟩⟩
instance : Inhabited Piece := ⟨.del 0⟩
end Ve
