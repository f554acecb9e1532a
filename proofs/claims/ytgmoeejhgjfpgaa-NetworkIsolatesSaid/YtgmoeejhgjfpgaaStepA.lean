/- A step on the network and on the reference. -/
import Derived.Test.YtgmoeejhgjfpgaaRefG
import Derived.Deep.RegionHeld3
namespace Go.Proofs.Ytgmoeejhgjfpgaa
open Go Go.RowKit Go.Maps

/-- A network and a reference's network of the same state. -/
def NR (T L : Nat → Prop) (w : World) (n : Nat) (st : NetSt) (k : Nat) (v : Value) : Prop := (∀ b, T b → b < w.heap.size) ∧ (∀ b, L b → b < w.heap.size) ∧ ∃ S, NetAt w S n st k ∧ (∀ b, S b → ¬ T b) ∧ RefAt w (fun b => S b ∨ L b) v st
def Opn.val (o : Opn) : Value := .agg #[.int .i64 o.kind, .int .i64 o.a, .int .i64 o.b, .int .i64 o.i, .string o.data]

structure SLoc (w0 W : World) (T L S : Nat → Prop) (n : Nat) (st : NetSt) (k : Nat) (v : Value) (st' : NetSt) (o : Opn) (B : Nat) : Prop where
  hB : B = w0.heap.size
  net : NetAt W S n st k
  ref : RefAt W (fun b => (S b ∨ L b) ∨ (B ≤ b ∧ b < B + 3)) v st'
  op : Blk W (B + 1) 30 #[.int .i64 o.kind, .int .i64 o.a, .int .i64 o.b, .int .i64 o.i, .string o.data]
  res : Blk W (B + 1 + 1) 43 #[.slice none 0 0, .int .i64 0, .slice none 0 0]
  since : Same noB w0 W
  bd : ∀ b, S b → b < B
  sz : B + 3 ≤ W.heap.size
  tb : ∀ b, T b → b < B
  ts : ∀ b, S b → ¬ T b
  lb : ∀ b, L b → b < B
namespace SLoc
variable {w0 W W' : World} {T L S : Nat → Prop} {n k k' B : Nat} {st st' : NetSt} {v : Value} {o : Opn}
theorem keep (h : SLoc w0 W T L S n st k v st' o B) (hs : Same noB W W') : SLoc w0 W' T L S n st k v st' o B :=
  ⟨h.hB, h.net.same hs (fun _ _ x => x), h.ref.keep hs, h.op.same hs (fun x => x), h.res.same hs (fun x => x), h.since.trans' hs, h.bd, Nat.le_trans h.sz hs.size, h.tb, h.ts, h.lb⟩
theorem setref (h : SLoc w0 W T L S n st k v st' o B) {v2 : Value} {st2 : NetSt} (hs : Same noB W W') (hr : RefAt W' (fun b => (S b ∨ L b) ∨ (B ≤ b ∧ b < B + 3)) v2 st2) : SLoc w0 W' T L S n st k v2 st2 o B :=
  ⟨h.hB, h.net.same hs (fun _ _ x => x), hr, h.op.same hs (fun x => x), h.res.same hs (fun x => x), h.since.trans' hs, h.bd, Nat.le_trans h.sz hs.size, h.tb, h.ts, h.lb⟩
theorem bz (h : SLoc w0 W T L S n st k v st' o B) : ∀ b, ((S b ∨ L b) ∨ (B ≤ b ∧ b < B + 3)) → b < W.heap.size := by
  intro b hb
  have := h.sz
  rcases hb with (hb | hb) | hb
  · have := h.bd b hb
    omega
  · have := h.lb b hb
    omega
  · omega
theorem cells (h : SLoc w0 W T L S n st k v st' o B) : (W.cell? ⟨B + 1, 0, none⟩ = some (.int .i64 o.kind) ∧ W.cell? ⟨B + 1, 1, none⟩ = some (.int .i64 o.a) ∧ W.cell? ⟨B + 1, 2, none⟩ = some (.int .i64 o.b) ∧ W.cell? ⟨B + 1, 3, none⟩ = some (.int .i64 o.i) ∧ W.cell? ⟨B + 1, 4, none⟩ = some (.string o.data)) ∧
    (W.cell? ⟨B + 1 + 1, 0, none⟩ = some (.slice none 0 0) ∧ W.cell? ⟨B + 1 + 1, 1, none⟩ = some (.int .i64 0) ∧ W.cell? ⟨B + 1 + 1, 2, none⟩ = some (.slice none 0 0)) ∧ W.frozen? ⟨B + 1 + 1, 0, none⟩ = false ∧ W.frozen? ⟨B + 1 + 1, 1, none⟩ = false ∧ W.frozen? ⟨B + 1 + 1, 2, none⟩ = false ∧ B + 1 < W.heap.size ∧ B + 1 + 1 < W.heap.size :=
  ⟨⟨h.op.cell 0, h.op.cell 1, h.op.cell 2, h.op.cell 3, h.op.cell 4⟩, ⟨h.res.cell 0, h.res.cell 1, h.res.cell 2⟩, h.res.frozen 0, h.res.frozen 1, h.res.frozen 2, h.op.lt, h.res.lt⟩
/-- A local block of the step: untouched by the network. -/
theorem far (h : SLoc w0 W T L S n st k v st' o B) {w3 : World} (hn : NetStep S n W w3 st' k') {g : Nat} {t : TypeId} {cs : Array Value} (hb : Blk W g t cs) (hg : B ≤ g) : Blk w3 g t cs :=
  hn.bd hb (fun x => by have := h.bd g x; omega)
/-- Behind the network's step and the store of the result. -/
theorem fin {A : Option Addr} {c : Nat} {A' : Option Addr} {c' : Nat} (h : SLoc w0 W T L S n st k (.agg #[.slice A st'.ps.length c, .int .i64 st'.last, .slice A' st'.iso.length c']) st' o B) {w3 w4 : World} (hn : NetStep S n W w3 st' k')
    (hw : w4 = ((w3.setCell ⟨B + 1 + 1, 0, none⟩ (.slice A st'.ps.length c)).setCell ⟨B + 1 + 1, 1, none⟩ (.int .i64 st'.last)).setCell ⟨B + 1 + 1, 2, none⟩ (.slice A' st'.iso.length c')) :
    Blk w4 (B + 1 + 1) 43 #[.slice A st'.ps.length c, .int .i64 st'.last, .slice A' st'.iso.length c'] ∧ NR T L w4 n st' k' (.agg #[.slice A st'.ps.length c, .int .i64 st'.last, .slice A' st'.iso.length c']) ∧ Same (notB T) w0 w4 := by
  subst hw
  have hs := set3 w3 (B + 1 + 1) (.slice A st'.ps.length c) (.int .i64 st'.last) (.slice A' st'.iso.length c')
  have hres := h.far hn h.res (by omega)
  have hbd := h.bd
  have hsz := h.sz
  obtain ⟨S', h1, h2, h3⟩ := hn
  have hnS : ∀ b, S' b → ¬ oneB (B + 1 + 1) b := fun b hb e => by
    rw [show b = B + 1 + 1 from e] at hb
    rcases h3 _ hb with hx | hx
    · have := hbd _ hx
      omega
    · omega
  refine ⟨blk_set3 hres _ _ _, ⟨fun b hb => ?_, fun b hb => ?_, S', h1.same hs hnS, fun b hb ht => ?_, ?_⟩, ?_⟩
  · have h4 := h.tb b hb
    have h5 := h2.size
    have h6 := hs.size
    omega
  · have h4 := h.lb b hb
    have h5 := h2.size
    have h6 := hs.size
    omega
  · rcases h3 b hb with hx | hx
    · exact h.ts b hx ht
    · have := h.tb b ht
      omega
  · refine (h.ref.same (bad' := fun b => (S' b ∨ L b) ∨ (B ≤ b ∧ b < B + 3)) h2 (fun b _ x => .inl (.inl x)) (fun b hb x => x.elim (fun x => x.elim (fun x => (h3 b x).elim (fun y => .inl (.inl y)) (fun y => by omega)) (fun x => .inl (.inr x))) .inr)).same hs (fun b _ e => .inr ?_) (fun b _ x => .inl x)
    rw [show b = B + 1 + 1 from e]
    omega
  · refine ((h.since.of_no.trans (h2.mono (S' := notB T) (fun b _ hb => h.ts b hb)) (fun _ _ x => x))).trans hs (fun b hb e => ?_)
    rw [show b = B + 1 + 1 from e] at hb
    rw [← h.hB] at hb
    omega
end SLoc
theorem SLoc.start {w : World} {T L S : Nat → Prop} {n k : Nat} {st : NetSt} {A : Option Addr} {c : Nat} {A' : Option Addr} {c' : Nat} (o : Opn) (hT : ∀ b, T b → b < w.heap.size) (hLL : ∀ b, L b → b < w.heap.size) (h1 : NetAt w S n st k) (h2 : ∀ b, S b → ¬ T b) (h3 : RefAt w (fun b => S b ∨ L b) (.agg #[.slice A st.ps.length c, .int .i64 st.last, .slice A' st.iso.length c']) st) :
    SLoc w (((w.alloc (.cells #[.slice A st.ps.length c, .int .i64 st.last, .slice A' st.iso.length c'] 43)).alloc (.cells #[.int .i64 o.kind, .int .i64 o.a, .int .i64 o.b, .int .i64 o.i, .string o.data] 30)).alloc (.cells #[.slice none 0 0, .int .i64 0, .slice none 0 0] 43)) T L S n st k (.agg #[.slice A st.ps.length c, .int .i64 st.last, .slice A' st.iso.length c']) st o w.heap.size ∧
    Blk (((w.alloc (.cells #[.slice A st.ps.length c, .int .i64 st.last, .slice A' st.iso.length c'] 43)).alloc (.cells #[.int .i64 o.kind, .int .i64 o.a, .int .i64 o.b, .int .i64 o.i, .string o.data] 30)).alloc (.cells #[.slice none 0 0, .int .i64 0, .slice none 0 0] 43)) w.heap.size 43 #[.slice A st.ps.length c, .int .i64 st.last, .slice A' st.iso.length c'] := by
  have hS : Same noB w (w.alloc (.cells #[.slice A st.ps.length c, .int .i64 st.last, .slice A' st.iso.length c'] 43)) := (Same.refl _ _).alloc _
  have hS2 := hS.alloc (.cells #[.int .i64 o.kind, .int .i64 o.a, .int .i64 o.b, .int .i64 o.i, .string o.data] 30)
  have hS3 := hS2.alloc (.cells #[.slice none 0 0, .int .i64 0, .slice none 0 0] 43)
  have b1 := Blk.new (w.alloc (.cells #[.slice A st.ps.length c, .int .i64 st.last, .slice A' st.iso.length c'] 43)) 30 #[.int .i64 o.kind, .int .i64 o.a, .int .i64 o.b, .int .i64 o.i, .string o.data]
  have b2 := Blk.new ((w.alloc (.cells #[.slice A st.ps.length c, .int .i64 st.last, .slice A' st.iso.length c'] 43)).alloc (.cells #[.int .i64 o.kind, .int .i64 o.a, .int .i64 o.b, .int .i64 o.i, .string o.data] 30)) 43 #[.slice none 0 0, .int .i64 0, .slice none 0 0]
  have e1 : (w.alloc (.cells #[.slice A st.ps.length c, .int .i64 st.last, .slice A' st.iso.length c'] 43)).heap.size = w.heap.size + 1 := by simp
  have e2 : ((w.alloc (.cells #[.slice A st.ps.length c, .int .i64 st.last, .slice A' st.iso.length c'] 43)).alloc (.cells #[.int .i64 o.kind, .int .i64 o.a, .int .i64 o.b, .int .i64 o.i, .string o.data] 30)).heap.size = w.heap.size + 1 + 1 := by simp
  rw [e1] at b1
  rw [e2] at b2
  have hbd := h1.bd
  refine ⟨⟨rfl, h1.same hS3 (fun _ _ x => x), h3.same hS3 (fun _ _ x => x.elim) (fun b hb x => x.elim id (fun x => by omega)), b1.alloc _, b2, hS3, hbd, by simp, hT, h2, hLL⟩, ((Blk.new _ _ _).alloc _).alloc _⟩
end Go.Proofs.Ytgmoeejhgjfpgaa
