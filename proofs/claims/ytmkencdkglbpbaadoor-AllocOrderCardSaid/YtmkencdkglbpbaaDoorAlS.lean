/- alloc, in plain terms: what the allocator does, step by step. -/
import Derived.Test.YtmkencdkglbpbaaDoorAlA
set_option maxRecDepth 100000
namespace Go.Proofs.YtmkencdkglbpbaaDoor
open Go.RowKit

/-- The books of the allocator: where it is, the eight registers, whose each slot is, what was put out, how many slots, an error. -/
structure AS where
  pos : Int
  G : List Int
  T : List Int
  out : List Op8
  slots : Int
  e : Int

/-- Where a register is read next: of its places the first that is not behind. -/
def nextF (n pos : Int) : List Int → Int
  | [] => n
  | i :: l => if pos ≤ i then i else nextF n pos l
/-- A slot for a register. -/
def slotOf (s : AS) : Int := if idxV s.T (-1) 0 < 0 then s.T.length else idxV s.T (-1) 0
def spillF (base : Int) (s : AS) (v : Int) : AS :=
  if s.T.contains v then s
  else { s with
    T := (if idxV s.T (-1) 0 < 0 then s.T ++ [-1] else s.T).set (slotOf s).toNat v
    slots := max s.slots (slotOf s + 1)
    e := if base + 4 * slotOf s > 1020 then 160 else s.e
    out := s.out ++ [⟨3, -1, -1, idxV s.G v 0, -1, -1, -1, base + 4 * slotOf s⟩] }
/-- The register whose virtual one is read the latest, among those that are not pinned. -/
def victimF (nx : Int → Int) (pins G : List Int) : List Int → Nat → Int → Int
  | [], _, best => best
  | v :: l, r, best => if pins.contains v then victimF nx pins G l (r + 1) best
    else if best < 0 ∨ nx v > nx (G.getD best.toNat 0) then victimF nx pins G l (r + 1) r
    else victimF nx pins G l (r + 1) best
/-- Which of the eight is given. -/
def pickF (nx : Int → Int) (pins : List Int) (s : AS) : Int := if idxV s.G (-1) 0 < 0 then victimF nx pins s.G s.G 0 (-1) else idxV s.G (-1) 0
def takeF (nx : Int → Int) (base : Int) (pins : List Int) (s : AS) (v : Int) : AS :=
  let s1 := if idxV s.G (-1) 0 < 0 then spillF base s (s.G.getD (pickF nx pins s).toNat 0) else s
  { s1 with G := s1.G.set (pickF nx pins s).toNat v }
/-- What an operation reads comes to be in registers. -/
def readF (nx : Int → Int) (base : Int) (pins : List Int) : List Int → AS → AS
  | [], s => s
  | v :: l, s =>
    if idxV s.G v 0 < 0 then
      let s1 := takeF nx base pins s v
      readF nx base pins l { s1 with out := s1.out ++ [⟨2, pickF nx pins s, -1, -1, -1, -1, -1, base + 4 * max (idxV s1.T v 0) 0⟩] }
    else readF nx base pins l s
/-- Those that it sets are given registers. -/
def setF (nx : Int → Int) (base : Int) (pins : List Int) : List Int → AS → List Int → AS × List Int
  | [], s, to => (s, to)
  | v :: l, s, to => setF nx base pins l (takeF nx base pins s v) (to ++ [pickF nx pins s])
/-- What is read by nothing behind is freed. -/
def freeF (nx : Int → Int) (n : Int) (L : List Int) : List Int := L.map fun v => if v ≠ -1 ∧ nx v = n then -1 else v
def endF (last : Int → List Int) (n : Int) (s : AS) : AS :=
  { s with pos := s.pos + 1, G := freeF (fun v => nextF n (s.pos + 1) (last v)) n s.G, T := freeF (fun v => nextF n (s.pos + 1) (last v)) n s.T }
/-- An operation. -/
def stepF (last : Int → List Int) (n base : Int) (s : AS) (o : Op8) : AS :=
  let nx := fun v => nextF n s.pos (last v)
  let U := regsOf [o.f0, o.f1, o.f2, o.f3]
  let W := regsOf [o.t0, o.t1]
  let s1 := readF nx base U U s
  let F := U.map fun v => idxV s1.G v 0
  let p := setF nx base (U ++ W) W s1 []
  endF last n { p.1 with out := p.1.out ++ [⟨o.K, padV p.2 0, padV p.2 1, padV F 0, padV F 1, padV F 2, padV F 3, o.N⟩] }
/-- Where each register is read. -/
def lastF : List Op8 → Nat → Int → List Int
  | [], _, _ => []
  | o :: l, i, v => ((regsOf [o.f0, o.f1, o.f2, o.f3]).filter (fun x => x == v)).map (fun _ => (i : Int)) ++ lastF l (i + 1) v
/-- The whole list, up to the first error. -/
def runF (last : Int → List Int) (n base : Int) : List Op8 → AS → AS
  | [], s => s
  | o :: l, s => runF last n base l (if s.e = 0 then stepF last n base s o else s)
/-- What Alloc returns: operations, slots, an error. -/
def allocF (L : List Op8) (base : Int) : List Op8 × Int × Int :=
  if listV [] L = false then ([], 0, 10)
  else if base < 0 ∨ base > 1020 ∨ base % 4 ≠ 0 then ([], 0, 11)
  else
    let s := runF (lastF L 0) L.length base L ⟨0, [-1, -1, -1, -1, -1, -1, -1, -1], [], [], 0, 0⟩
    if s.e = 0 then (s.out, s.slots, 0) else ([], 0, s.e)

/-- The document's example. -/
theorem alloc_anchor : ((allocF [⟨1, 0, -1, -1, -1, -1, -1, 1⟩, ⟨1, 1, -1, -1, -1, -1, -1, 2⟩, ⟨1, 2, -1, -1, -1, -1, -1, 3⟩, ⟨10, 3, -1, 0, 1, -1, -1, 0⟩, ⟨10, 4, -1, 2, 3, -1, -1, 0⟩] 0).1.map (fun o => o.t0)) = [0, 1, 2, 3, 0] := by decide
end Go.Proofs.YtmkencdkglbpbaaDoor
