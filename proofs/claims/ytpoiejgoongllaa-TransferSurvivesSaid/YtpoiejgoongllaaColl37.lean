/-
  That flipped bits do not collide in the fingerprint (plain, by computing): of two packets of 1024 bytes, at most three of the first 26 bits of each, and one byte more.
-/
import Derived.Test.YtpoiejgoongllaaPolyLaws
namespace Go.Proofs.Ytpoiejgoongllaa
section
set_option linter.unusedVariables false
set_option linter.unusedSimpArgs false
set_option linter.unnecessarySimpa false

abbrev q61 : Nat := 2305843009213693951
/-- bit b of a packet of 1024 bytes at the head of 2049 bytes, of the one behind it -/
def cw1 : List Nat := [810800612398802863, 1621601224797605726, 937359440381517501, 1874718880763035002, 1443594752312376053, 581346495411058155, 1162692990822116310, 19542972430538669, 1773010333098858846, 1240177656984023741, 174512304754353531, 349024609508707062, 698049219017414124, 1396098438034828248, 486353866855962545, 972707733711925090, 851892902883642233, 1703785805767284466, 1101728602320874981, 2203457204641749962, 2101071400069805973, 1896299790925917995, 1486756572638142039, 667670136062590127, 2057963478677896308, 1810083948142098665]
def cw2 : List Nat := [740854658412711125, 1481709316825422250, 657575624437150549, 1315151248874301098, 324459488534908245, 648918977069816490, 1297837954139632980, 289832899065572009, 563280281329182719, 1126560562658365438, 2253121125316730876, 2200399241419767801, 2094955473625841651, 1884067938037989351, 1462292866862284751, 618742724510875551, 340557658619372567, 681115317238745134, 1362230634477490268, 418618259741286585, 837236519482573170, 1674473038965146340, 1043103068716598729, 2086206137433197458, 570774482032094866, 1141548964064189732]
def cForce {α : Type} (n : Nat) (k : Nat → α) : α := Nat.rec (k 0) (fun m _ => k (Nat.succ m)) n
theorem cForce_eq {α : Type} (n : Nat) (k : Nat → α) : cForce n k = k n := by cases n <;> rfl
/-- onto out: v mod q61, if it lies in [lo, hi) -/
def cPut (lo hi v : Nat) (out : List Nat) : List Nat := cForce (Nat.mod v 2305843009213693951) fun x => cond (Nat.ble lo x) (cond (Nat.blt x hi) (x :: out) out) out
/-- the sums of acc and up to n of the numbers of l, each with a sign -/
def cSubs (lo hi : Nat) : List Nat → Nat → Nat → List Nat → List Nat
  | [], _, acc, out => cPut lo hi acc out
  | _ :: _, 0, acc, out => cPut lo hi acc out
  | v :: l, n + 1, acc, out => cSubs lo hi l (n + 1) acc (cSubs lo hi l n (Nat.add acc v) (cSubs lo hi l n (Nat.add acc (Nat.sub 2305843009213693951 v)) out))
/-- .. of at least one and at most three -/
def cNz (lo hi : Nat) : List Nat → List Nat → List Nat
  | [], out => out
  | v :: l, out => cNz lo hi l (cSubs lo hi l 2 v (cSubs lo hi l 2 (Nat.sub 2305843009213693951 v) out))
def cLows (m : Nat) : List Nat → List Nat
  | [] => []
  | x :: l => cond (Nat.blt x m) (x :: cLows m l) (cLows m l)
def cHighs (m : Nat) : List Nat → List Nat
  | [] => []
  | x :: l => cond (Nat.ble m x) (x :: cHighs m l) (cHighs m l)
def cFar (x : Nat) : List Nat → Bool
  | [] => true
  | y :: l => cond (Nat.ble (Nat.add x 256) y) (cFar x l) (cond (Nat.ble (Nat.add y 256) x) (cFar x l) false)
def cFarAll (Y : List Nat) : List Nat → Bool
  | [] => true
  | x :: l => cond (cFar x Y) (cFarAll Y l) false
def cNone : List Nat → Bool
  | [] => true
  | _ :: _ => false
def cApart : Nat → Nat → Nat → List Nat → List Nat → Bool
  | 0, _, _, X, Y => cFarAll Y X
  | d + 1, lo, wd, X, Y => cond (cNone X) true (cond (cNone Y) true (cForce (Nat.div wd 2) fun h => cForce (Nat.add lo h) fun m =>
      cond (cApart d lo h (cLows m X) (cLows (Nat.add m 256) Y)) (cApart d m h (cHighs m X) (cHighs (Nat.sub m 256) Y)) false))
def cChk (r : Nat) : Bool := cForce (Nat.mul r 288230376151711744) fun lo => cForce (Nat.add lo 288230376151711744) fun hi => cApart 13 lo 288230376151711744 (cNz lo hi cw1 []) (cNz (Nat.sub lo 256) (Nat.add hi 256) cw2 [])
theorem cChk0 : cChk 0 = true := by decide +kernel
theorem cChk1 : cChk 1 = true := by decide +kernel
theorem cChk2 : cChk 2 = true := by decide +kernel
theorem cChk3 : cChk 3 = true := by decide +kernel
theorem cLow1 : cNone (cNz 0 256 cw1 []) = true := by decide +kernel
theorem cLow2 : cNone (cNz 0 256 cw2 []) = true := by decide +kernel
theorem cHigh1 : cNone (cNz 2305843009213693696 2305843009213693951 cw1 []) = true := by decide +kernel
theorem cHigh2 : cNone (cNz 2305843009213693696 2305843009213693951 cw2 []) = true := by decide +kernel
end
end Go.Proofs.Ytpoiejgoongllaa
