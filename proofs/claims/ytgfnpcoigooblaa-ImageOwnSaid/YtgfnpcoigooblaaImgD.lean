
/- Images: what lies in memory. -/
import Derived.Test.YtgfnpcoigooblaaMem
import Derived.Test.YtgfnpcoigooblaaCodeB
set_option linter.all false
namespace Go.Proofs.Ytgfnpcoigooblaa
open Go.RowKit

/-- A compartment as it lies: where its code is, with how much room. -/
structure CompM where
  A : Option Addr
  cap : Nat
  code : List Int
  data : Int
deriving Inhabited
abbrev CompM.cells (x : CompM) : List Value := [.slice x.A x.code.length x.cap, .int .i64 x.data]
structure LinkM where
  fr : Int
  to : Int
  at' : Int
deriving DecidableEq, Inhabited
abbrev LinkM.cells (x : LinkM) : List Value := [.int .i64 x.fr, .int .i64 x.to, .int .i64 x.at']
structure ShareM where
  rd : Int
  wr : Int
deriving DecidableEq, Inhabited
abbrev ShareM.cells (x : ShareM) : List Value := [.int .i64 x.rd, .int .i64 x.wr]
/-- An image as it lies. -/
structure ImgM where
  strict : Bool
  heap : Int
  full : Int
  Ac : Option Addr
  cc : Nat
  comps : List CompM
  Al : Option Addr
  cl : Nat
  links : List LinkM
  As : Option Addr
  cs : Nat
  shares : List ShareM
abbrev ImgM.cells (x : ImgM) : List Value := [.bool x.strict, .int .i64 x.heap, .int .i64 x.full, .slice x.Ac x.comps.length x.cc, .slice x.Al x.links.length x.cl, .slice x.As x.shares.length x.cs]
def i64ok (n : Int) : Prop := -9223372036854775808 ≤ n ∧ n ≤ 9223372036854775807
structure ImgAt (W : World) (x : ImgM) : Prop where
  comps : Arr W x.Ac (x.comps.flatMap CompM.cells)
  codes : ∀ c ∈ x.comps, Arr W c.A (bs c.code) ∧ (∀ b ∈ c.code, 0 ≤ b ∧ b < 256) ∧ c.code.length ≤ c.cap ∧ c.code.length ≤ 140737488351232 ∧ i64ok c.data
  links : Arr W x.Al (x.links.flatMap LinkM.cells)
  linksOk : ∀ l ∈ x.links, i64ok l.fr ∧ i64ok l.to ∧ i64ok l.at'
  shares : Arr W x.As (x.shares.flatMap ShareM.cells)
  sharesOk : ∀ s ∈ x.shares, i64ok s.rd ∧ i64ok s.wr
  nums : i64ok x.heap ∧ i64ok x.full
  lens : x.comps.length ≤ x.cc ∧ x.comps.length ≤ 140737488351232 ∧ x.links.length ≤ x.cl ∧ x.links.length ≤ 140737488351232 ∧ x.shares.length ≤ x.cs ∧ x.shares.length ≤ 140737488351232
theorem ImgAt.ext {W W' : World} {x : ImgM} (h : ImgAt W x) (he : Ext W W') : ImgAt W' x :=
  ⟨h.comps.ext he, fun c hc => ⟨(h.codes c hc).1.ext he, (h.codes c hc).2⟩, h.links.ext he, h.linksOk, h.shares.ext he, h.sharesOk, h.nums, h.lens⟩

/-! ### what it tells -/
structure CompD where
  code : List Int
  data : Int
deriving DecidableEq
structure ImgD where
  strict : Bool
  heap : Int
  full : Int
  comps : List CompD
  links : List LinkM
  shares : List ShareM
deriving DecidableEq
def CompM.d (c : CompM) : CompD := ⟨c.code, c.data⟩
def ImgM.d (x : ImgM) : ImgD := ⟨x.strict, x.heap, x.full, x.comps.map CompM.d, x.links, x.shares⟩
def inB (n a b : Int) : Bool := decide (a ≤ n ∧ n ≤ b)
def compOk (c : CompD) : Bool := inB c.code.length 4 4096 && decide (c.code.length % 4 = 0) && inB c.data 1 8
def linkOk (cs : List CompD) (l : LinkM) : Bool := inB l.fr 0 (cs.length - 1) && inB l.to 0 (cs.length - 1) && decide (l.fr ≠ l.to) && (match cs[l.to.toNat]? with | some c => inB l.at' 0 (c.code.length / 4 - 1) | none => false)
def manyOk (l : List LinkM) : Bool := (List.range 4).all fun k => decide ((l.filter fun x => decide (x.fr = (k : Int))).length ≤ 8)
/-- s.Write &^ s.Read == 0. -/
def subBits (a b : Int) : Bool := decide (bits .andNot .i64 a b = 0)
def shareOk (n : Nat) (s : ShareM) : Bool := inB s.rd 0 (2 ^ n - 1) && decide (0 ≤ s.wr) && subBits s.wr s.rd
def formD (x : ImgD) : Bool := (inB x.heap 1 64 && inB x.full 1 4096 && inB x.comps.length 1 4 && decide (x.links.length ≤ 16) && decide (x.shares.length ≤ 4)) && (x.comps.all compOk && (x.links.all (linkOk x.comps) && (manyOk x.links && x.shares.all (shareOk x.comps.length))))
end Go.Proofs.Ytgfnpcoigooblaa
