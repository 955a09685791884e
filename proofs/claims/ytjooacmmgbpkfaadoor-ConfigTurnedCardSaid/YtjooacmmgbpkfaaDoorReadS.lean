/- config.Read: what its walk keeps: the reader, the configuration under way, the result's cell. -/
import Derived.Test.YtjooacmmgbpkfaaDoorReader
import Derived.Test.YtjooacmmgbpkfaaDoorCheck
import Derived.Test.YtjooacmmgbpkfaaDoorLive2
import Derived.Test.YtjooacmmgbpkfaaDoorRegG
namespace Go.Proofs.YtjooacmmgbpkfaaDoor
open Go.RowKit

theorem Ext.trans_kept {a b c : World} {S : Nat → Prop} (h : Ext a b) (k : Kept S b c) (hS : ∀ j, S j → a.heap.size ≤ j) : Ext a c :=
  ⟨k.os.trans h.os, k.tape.trans h.tape, k.output.trans h.output, Nat.le_trans h.size k.size, fun i hi => (k.block i (Nat.lt_of_lt_of_le hi h.size) (fun hs => by have := hS i hs; omega)).trans (h.block i hi)⟩

def zeroCfg : Array Value := #[.int .u8 0, .int .u8 0, .int .u8 0, .int .i64 0, .int .i64 0, .int .i64 0, .int .i64 0, .int .i64 0, .int .i64 0, .int .u16 0, .slice none 0 0]
/-- The world while config.Read reads: its reader at g, its configuration at gc. -/
structure RS (w : World) (g gc : Nat) (x : List Nat) (k : Nat) (cs : Array Value) (W : World) : Prop where
  ext : Ext w W
  res : W.heap[w.heap.size]? = some (.cells zeroCfg 26 (0, 0))
  rd : Rd W g x k
  cfg : W.heap[gc]? = some (.cells cs 26 (0, 0))
  lt : w.heap.size < g ∧ g < gc
theorem RS.took {w : World} {g gc : Nat} {x : List Nat} {k k' : Nat} {cs : Array Value} {W W' : World} (h : RS w g gc x k cs W) (hr : Rd W' g x k') (hk : Kept (fun j => j = g) W W') : RS w g gc x k' cs W' :=
  ⟨h.ext.trans_kept hk (fun j hj => by subst hj; have := h.lt; omega), hk.heap h.res (fun e => by have := h.lt; omega), hr, hk.heap h.cfg (fun e => by have := h.lt; omega), h.lt⟩
theorem RS.set {w : World} {g gc : Nat} {x : List Nat} {k : Nat} {cs : Array Value} {W : World} (h : RS w g gc x k cs W) (j : Nat) (v : Value) : RS w g gc x k (cs.setIfInBounds j v) (W.setCell ⟨gc, j, none⟩ v) := by
  have hk : Kept (fun i => i = gc) W (W.setCell ⟨gc, j, none⟩ v) := by
    refine Kept.setCell (Kept.refl _ W) ?_ v
    exact fun _ => rfl
  exact ⟨h.ext.trans_kept hk (fun i hi => by subst hi; have := h.lt; omega), hk.heap h.res (fun e => by have := h.lt; omega), h.rd.kept hk (fun i hi => by subst hi; exact h.lt.2), heap_setCell_same _ gc j _ _ v h.cfg, h.lt⟩
theorem RS.more {w : World} {g gc : Nat} {x : List Nat} {k : Nat} {cs : Array Value} {W W' : World} (h : RS w g gc x k cs W) (hx : Ext W W') : RS w g gc x k cs W' :=
  ⟨h.ext.trans hx, hx.heap h.res, h.rd.ext hx, hx.heap h.cfg, h.lt⟩
end Go.Proofs.YtjooacmmgbpkfaaDoor
