/- Sites, racks, feeds, machines and links of a model: what the functions of layer 14 return, in plain words. -/
import Derived.Test.YtpngmodgnkjhnaaGen
namespace Go.Proofs.Ytpngmodgnkjhnaa
open Go Go.RowKit
set_option maxRecDepth 100000

structure Rk where
  name : ByteArray
  site : Int
  feed : Int
structure Mc where
  name : ByteArray
  rack : Int
  cap : Int
structure Lk where
  a : Int
  b : Int
  cap : Int
/-- A slice's own cells: where it lies. -/
structure Sl where
  addr : Option Addr
  len : Nat
  cap : Nat
structure It where
  name : ByteArray
  kind : Int
  count : Int
  load : Int
  size : Int
  share : Int
  on : Sl
structure Ru where
  kind : Int
  item : Int
  other : Int
  n : Int
  by_ : Int
  always : Bool
  ms : Sl
structure Mdl where
  sites : List ByteArray
  feeds : List ByteArray
  racks : List Rk
  machines : List Mc
  links : List Lk
  items : List It
  dark : Int
  slots : Int
  reserve : Int
  failures : Int
  rules : List Ru

def exB (n : Int) (len : Nat) : Bool := decide (1 ≤ n) && decide (n ≤ (len : Int))
def amtB (n : Int) : Bool := decide (0 ≤ n) && decide (n ≤ 1048576)
theorem exB_iff {n : Int} {len : Nat} : exB n len = true ↔ 1 ≤ n ∧ n ≤ (len : Int) := by simp [exB]
theorem exB_at {n : Int} {len : Nat} (h : exB n len = true) : ∃ i : Nat, n = (i : Int) + 1 ∧ i < len := by
  rw [exB_iff] at h
  exact ⟨(n - 1).toNat, by omega, by omega⟩

namespace Mdl
variable (m : Mdl)
def rackB (i : Nat) (x : Rk) : Bool := exB x.site m.sites.length && exB x.feed m.feeds.length && !(m.racks.take i).any (fun y => y.feed == x.feed && y.site != x.site)
def linkB (i : Nat) (x : Lk) : Bool := decide (1 ≤ x.a) && decide (x.a < x.b) && decide (x.b ≤ (m.sites.length : Int)) && amtB x.cap && !(m.links.take i).any (fun y => y.a == x.a && y.b == x.b)
def machB (x : Mc) : Bool := exB x.rack m.racks.length && amtB x.cap
def racksB : Bool := (List.range m.racks.length).all fun i => match m.racks[i]? with | some x => m.rackB i x | none => true
def linksB : Bool := (List.range m.links.length).all fun i => match m.links[i]? with | some x => m.linkB i x | none => true
def sizesB : Bool := decide (1 ≤ m.sites.length) && decide (m.sites.length ≤ 4) && decide (m.feeds.length ≤ 16) && decide (m.racks.length ≤ 16) && decide (1 ≤ m.machines.length) && decide (m.machines.length ≤ 16) && decide (m.links.length ≤ 12)
def valid : Bool := m.sizesB && m.machines.all m.machB && m.racksB && m.linksB
/-- How many domains of a kind there are. -/
def domains (by_ : Int) : Nat := if by_ = 1 then m.machines.length else if by_ = 2 then m.racks.length else if by_ = 3 then m.feeds.length else if by_ = 4 then m.sites.length else 0
def rackAt (r : Int) : Option Rk := if exB r m.racks.length then m.racks[(r - 1).toNat]? else none
/-- The number that a machine has by a kind, before it is asked whether it exists. -/
def number (by_ : Int) (i : Int) (x : Mc) : Int := if by_ = 1 then i else match m.rackAt x.rack with | none => 0 | some r => if by_ = 3 then r.feed else if by_ = 4 then r.site else x.rack
def domain (by_ : Int) (i : Int) : Int :=
  if exB i m.machines.length then
    match m.machines[(i - 1).toNat]? with
    | none => 0
    | some x => if exB (m.number by_ i x) (m.domains by_) then m.number by_ i x else 0
  else 0
def inDom (by_ : Int) (num : Int) (i : Nat) : Bool := by_ == 0 || (decide (1 ≤ num) && m.domain by_ ((i : Int) + 1) == num)
def machinesOf (by_ : Int) (num : Int) : List Int := ((List.range m.machines.length).filter (m.inDom by_ num)).map (fun (i : Nat) => (i : Int) + 1)
def capAt (i : Int) : Int := match m.machines[(i - 1).toNat]? with | some x => x.cap | none => 0
def capacity (by_ : Int) (num : Int) : Int := (m.machinesOf by_ num).foldl (fun s i => wrap64 (s + m.capAt i)) 0
def joins (a b : Int) (x : Lk) : Bool := (x.a == a && x.b == b) || (x.a == b && x.b == a)
def link (a b : Int) : Int := if a = b then 0 else match m.links.findIdx? (joins a b) with | some i => (i : Int) + 1 | none => 0
def near (s : Int) : List Int := if exB s m.sites.length then ((List.range m.sites.length).map (fun (i : Nat) => (i : Int) + 1)).filter (fun t => decide (0 < m.link s t)) else []
end Mdl

def scells (l : List ByteArray) : List Value := l.map Value.string
def Rk.cells (x : Rk) : List Value := [.string x.name, .int .i64 x.site, .int .i64 x.feed]
def Mc.cells (x : Mc) : List Value := [.string x.name, .int .i64 x.rack, .int .i64 x.cap]
def Lk.cells (x : Lk) : List Value := [.int .i64 x.a, .int .i64 x.b, .int .i64 x.cap]
def It.cells (x : It) : List Value := [.string x.name, .int .i64 x.kind, .int .i64 x.count, .int .i64 x.load, .int .i64 x.size, .int .i64 x.share, .slice x.on.addr x.on.len x.on.cap]
def Ru.cells (x : Ru) : List Value := [.int .i64 x.kind, .int .i64 x.item, .int .i64 x.other, .int .i64 x.n, .int .i64 x.by_, .bool x.always, .slice x.ms.addr x.ms.len x.ms.cap]
def rkcells (l : List Rk) : List Value := l.flatMap Rk.cells
def mccells (l : List Mc) : List Value := l.flatMap Mc.cells
def lkcells (l : List Lk) : List Value := l.flatMap Lk.cells
def itcells (l : List It) : List Value := l.flatMap It.cells
def rucells (l : List Ru) : List Value := l.flatMap Ru.cells

/-- Where a model's lists lie. -/
structure MPl where
  s : Sl
  f : Sl
  r : Sl
  mc : Sl
  l : Sl
  i : Sl
  ru : Sl
/-- Ints and lengths of a model are those of a machine. -/
structure Mdl.Ok (m : Mdl) : Prop where
  racks : ∀ x ∈ m.racks, inI64 x.site ∧ inI64 x.feed
  machines : ∀ x ∈ m.machines, inI64 x.rack ∧ inI64 x.cap
  links : ∀ x ∈ m.links, inI64 x.a ∧ inI64 x.b ∧ inI64 x.cap
/-- The slices of a model, as they lie in a world. -/
structure MdlIn (w : World) (p : MPl) (m : Mdl) : Prop where
  s : Rd w noB 1 (.slice p.s.addr p.s.len p.s.cap) p.s.len (scells m.sites)
  f : Rd w noB 1 (.slice p.f.addr p.f.len p.f.cap) p.f.len (scells m.feeds)
  r : Rd w noB 3 (.slice p.r.addr p.r.len p.r.cap) p.r.len (rkcells m.racks)
  mc : Rd w noB 3 (.slice p.mc.addr p.mc.len p.mc.cap) p.mc.len (mccells m.machines)
  l : Rd w noB 3 (.slice p.l.addr p.l.len p.l.cap) p.l.len (lkcells m.links)
  i : Rd w noB 7 (.slice p.i.addr p.i.len p.i.cap) p.i.len (itcells m.items)
  ru : Rd w noB 7 (.slice p.ru.addr p.ru.len p.ru.cap) p.ru.len (rucells m.rules)
  ok : m.Ok
  ls : p.s.len = m.sites.length
  lf : p.f.len = m.feeds.length
  lr : p.r.len = m.racks.length
  lm : p.mc.len = m.machines.length
  ll : p.l.len = m.links.length
  li : p.i.len = m.items.length
  lru : p.ru.len = m.rules.length
theorem MdlIn.keep {w w' : World} {p : MPl} {m : Mdl} (h : MdlIn w p m) (hs : Same noB w w') : MdlIn w' p m :=
  ⟨h.s.keep hs, h.f.keep hs, h.r.keep hs, h.mc.keep hs, h.l.keep hs, h.i.keep hs, h.ru.keep hs, h.ok, h.ls, h.lf, h.lr, h.lm, h.ll, h.li, h.lru⟩
def Sl.val (s : Sl) : Value := .slice s.addr s.len s.cap
def mdlVal (p : MPl) (m : Mdl) : Value := .agg #[.slice p.s.addr p.s.len p.s.cap, .slice p.f.addr p.f.len p.f.cap, .slice p.r.addr p.r.len p.r.cap, .slice p.mc.addr p.mc.len p.mc.cap, .slice p.l.addr p.l.len p.l.cap, .slice p.i.addr p.i.len p.i.cap,
  .int .i64 m.dark, .int .i64 m.slots, .int .i64 m.reserve, .int .i64 m.failures, .slice p.ru.addr p.ru.len p.ru.cap]
def mdlCells (p : MPl) (m : Mdl) : Array Value := #[.slice p.s.addr p.s.len p.s.cap, .slice p.f.addr p.f.len p.f.cap, .slice p.r.addr p.r.len p.r.cap, .slice p.mc.addr p.mc.len p.mc.cap, .slice p.l.addr p.l.len p.l.cap, .slice p.i.addr p.i.len p.i.cap,
  .int .i64 m.dark, .int .i64 m.slots, .int .i64 m.reserve, .int .i64 m.failures, .slice p.ru.addr p.ru.len p.ru.cap]

theorem rk_at {w : World} {bad : Nat → Prop} {b o i : Nat} {l : List Rk} {x : Rk} (r : RdAt w bad b o (rkcells l)) (h : l[i]? = some x) :
    w.cell? ⟨b, o + i * 3, none⟩ = some (.string x.name) ∧ w.cell? ⟨b, o + i * 3 + 1, none⟩ = some (.int .i64 x.site) ∧ w.cell? ⟨b, o + i * 3 + 2, none⟩ = some (.int .i64 x.feed) := by
  have c0 := r.cell (i * 3 + 0) _ ((flat_at Rk.cells 3 (fun _ => rfl) h 0 (by omega)).trans rfl)
  have c1 := r.cell (i * 3 + 1) _ ((flat_at Rk.cells 3 (fun _ => rfl) h 1 (by omega)).trans rfl)
  have c2 := r.cell (i * 3 + 2) _ ((flat_at Rk.cells 3 (fun _ => rfl) h 2 (by omega)).trans rfl)
  simp only [← Nat.add_assoc, Nat.add_zero] at c0 c1 c2
  exact ⟨c0, c1, c2⟩
theorem mc_at {w : World} {bad : Nat → Prop} {b o i : Nat} {l : List Mc} {x : Mc} (r : RdAt w bad b o (mccells l)) (h : l[i]? = some x) :
    w.cell? ⟨b, o + i * 3, none⟩ = some (.string x.name) ∧ w.cell? ⟨b, o + i * 3 + 1, none⟩ = some (.int .i64 x.rack) ∧ w.cell? ⟨b, o + i * 3 + 2, none⟩ = some (.int .i64 x.cap) := by
  have c0 := r.cell (i * 3 + 0) _ ((flat_at Mc.cells 3 (fun _ => rfl) h 0 (by omega)).trans rfl)
  have c1 := r.cell (i * 3 + 1) _ ((flat_at Mc.cells 3 (fun _ => rfl) h 1 (by omega)).trans rfl)
  have c2 := r.cell (i * 3 + 2) _ ((flat_at Mc.cells 3 (fun _ => rfl) h 2 (by omega)).trans rfl)
  simp only [← Nat.add_assoc, Nat.add_zero] at c0 c1 c2
  exact ⟨c0, c1, c2⟩
theorem lk_at {w : World} {bad : Nat → Prop} {b o i : Nat} {l : List Lk} {x : Lk} (r : RdAt w bad b o (lkcells l)) (h : l[i]? = some x) :
    w.cell? ⟨b, o + i * 3, none⟩ = some (.int .i64 x.a) ∧ w.cell? ⟨b, o + i * 3 + 1, none⟩ = some (.int .i64 x.b) ∧ w.cell? ⟨b, o + i * 3 + 2, none⟩ = some (.int .i64 x.cap) := by
  have c0 := r.cell (i * 3 + 0) _ ((flat_at Lk.cells 3 (fun _ => rfl) h 0 (by omega)).trans rfl)
  have c1 := r.cell (i * 3 + 1) _ ((flat_at Lk.cells 3 (fun _ => rfl) h 1 (by omega)).trans rfl)
  have c2 := r.cell (i * 3 + 2) _ ((flat_at Lk.cells 3 (fun _ => rfl) h 2 (by omega)).trans rfl)
  simp only [← Nat.add_assoc, Nat.add_zero] at c0 c1 c2
  exact ⟨c0, c1, c2⟩
end Go.Proofs.Ytpngmodgnkjhnaa
