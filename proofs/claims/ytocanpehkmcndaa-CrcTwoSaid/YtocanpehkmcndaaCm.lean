/- The check sum: plain. -/
namespace Go.Crc

def half (r : BitVec 32) : BitVec 32 := (r >>> 1) ^^^ (3988292384#32 &&& -(r &&& 1#32))
def halves : Nat → BitVec 32 → BitVec 32
  | 0, r => r
  | n + 1, r => half (halves n r)
def tab (i : BitVec 8) : BitVec 32 := halves 8 (i.setWidth 32)
def step1 (r : BitVec 32) (c : BitVec 8) : BitVec 32 := tab (r.setWidth 8 ^^^ c) ^^^ (r >>> 8)
def step (r : BitVec 32) (b : List (BitVec 8)) : BitVec 32 := b.foldl step1 r
def sum (b : List (BitVec 8)) : BitVec 32 := step 4294967295#32 b ^^^ 4294967295#32

end Go.Crc
