/- The program's plain data, and the cells that hold them. -/
import Derived.Test.YtjekfifnhdoamaaLib
namespace Go.St

structure IKey where
  user : ByteArray
  seq : Int
  kind : Int
instance : Inhabited IKey := ⟨⟨ByteArray.empty, 0, 0⟩⟩
structure File where
  level : Int
  num : Int
  size : Int
  small : IKey
  large : IKey
instance : Inhabited File := ⟨⟨0, 0, 0, default, default⟩⟩
def eKey (k : IKey) : List Value := [.string k.user, .int .u64 k.seq, .int .i64 k.kind]
def eFile (f : File) : List Value := [.int .i64 f.level, .int .u64 f.num, .int .i64 f.size, .string f.small.user, .int .u64 f.small.seq, .int .i64 f.small.kind, .string f.large.user, .int .u64 f.large.seq, .int .i64 f.large.kind]
theorem eFile_length (f : File) : (eFile f).length = 9 := rfl
abbrev SlFile (w : World) (v : Value) (xs : List File) : Prop := SlS w v 9 eFile xs
theorem SlS.file {w w' : World} {v : Value} {xs : List File} (h : SlFile w v xs) (he : Rg.Ext w w') : SlFile w' v xs := SlS.go eFile_length h he
end Go.St
