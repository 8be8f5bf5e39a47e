
/- Images: what is read of bytes (plain). -/
import Derived.Test.YtgfnpcoigooblaaGetA
set_option linter.all false
namespace Go.Proofs.Ytgfnpcoigooblaa

def compsP (s : StR) : Nat → List (Int × Int) × StR
  | 0 => ([], s)
  | k + 1 => ((compsP s k).1 ++ [((twoS (compsP s k).2).1, (oneS (twoS (compsP s k).2).2).1)], (oneS (twoS (compsP s k).2).2).2)
def linksP (s : StR) : Nat → List LinkM × StR
  | 0 => ([], s)
  | k + 1 => ((linksP s k).1 ++ [⟨(oneS (linksP s k).2).1, (oneS (oneS (linksP s k).2).2).1, (twoS (oneS (oneS (linksP s k).2).2).2).1⟩], (twoS (oneS (oneS (linksP s k).2).2).2).2)
def sharesP (s : StR) : Nat → List ShareM × StR
  | 0 => ([], s)
  | k + 1 => ((sharesP s k).1 ++ [⟨(oneS (sharesP s k).2).1, (oneS (oneS (sharesP s k).2).2).1⟩], (oneS (oneS (sharesP s k).2).2).2)
def codesP (z : List Int) (s : StR) : Nat → List (List Int) × StR
  | 0 => ([], s)
  | k + 1 => ((codesP z s k).1 ++ [(someS (z.getD k 0).toNat (codesP z s k).2).1], (someS (z.getD k 0).toNat (codesP z s k).2).2)
structure HeadR where
  name : List Int
  strict : Int
  heap : Int
  full : Int
  comps : Int
  links : Int
  shares : Int
def headP (l : List Int) : HeadR × StR :=
  let a := someS 2 (l, false)
  let b := oneS a.2
  let c := oneS b.2
  let d := twoS c.2
  let e := oneS d.2
  let f := oneS e.2
  let g := oneS f.2
  (⟨a.1, b.1, c.1, d.1, e.1, f.1, g.1⟩, g.2)
/-- All that is read, and what is left. -/
def readP (l : List Int) : ImgD × StR :=
  let h := headP l
  let c := compsP h.2 h.1.comps.toNat
  let k := linksP c.2 h.1.links.toNat
  let s := sharesP k.2 h.1.shares.toNat
  let z := codesP (c.1.map Prod.fst) s.2 h.1.comps.toNat
  (⟨h.1.strict == 1, h.1.heap, h.1.full, (z.1.zip (c.1.map Prod.snd)).map fun x => ⟨x.1, x.2⟩, k.1, s.1⟩, z.2)
def badP (l : List Int) : Bool := (readP l).2.2 || !(readP l).2.1.isEmpty || decide ((headP l).1.name ≠ [83, 90]) || decide ((headP l).1.strict > 1) || !formD (readP l).1
def zeroD : ImgD := ⟨false, 0, 0, [], [], []⟩
def getD (l : List Int) : ImgD × Int := if badP l then (zeroD, 1) else if rightD (readP l).1 then ((readP l).1, 0) else (zeroD, 151)
end Go.Proofs.Ytgfnpcoigooblaa
