/- Small facts for the walks: bytes, and a text made of a slice of bytes that the call itself laid. No condition. -/
import Derived.Test.YtphiahlodjblcaaDoorKit
import Derived.Lib.SlBytesRow
import Derived.StillTailTactics
namespace Go.Proofs.YtphiahlodjblcaaDoor.Kit
open Go.RowKit
def byteCells (l : List UInt8) : Array Value := (l.map fun c => Value.int .u8 (c.toNat : Int)).toArray
theorem bytes_new (w : World) (l : List UInt8) (T : TypeId) (fr : Nat × Nat) (n : Nat) (hn : n = w.heap.size) : Lib.Bytes (w.alloc (.cells (byteCells l) T fr)) n 0 (ofL l) := by
  intro i h
  subst hn
  have h1 : (w.alloc (.cells (byteCells l) T fr)).heap[w.heap.size]? = some (.cells (byteCells l) T fr) := by
    show (w.heap.push _)[w.heap.size]? = _
    rw [Array.getElem?_push, if_pos rfl]
  simp only [World.cell?, h1]
  show (byteCells l)[0 + i]? = _
  have h2 : i < l.length := by rw [size_ofL] at h; exact h
  rw [Nat.zero_add, byteCells, List.getElem?_toArray, List.getElem?_map, List.getElem?_eq_getElem h2]
  rfl
/-- 'string([]byte..)' of bytes that were laid just now -/
theorem conv_new {P : Program} (w : World) (l : List UInt8) (src e dst : TypeId) (hs : P.underlying src = some (.slice e)) (he : P.underlying e = some (.int .u8)) (hd : P.underlying dst = some .string) (cs : Array Value) (hcs : cs = byteCells l) (fr : Nat × Nat) (m cap n : Nat) (hm : m = w.heap.size) (hn : n = l.length) :
    (convert src dst (.slice (some ⟨m, 0, none⟩) n cap)).run P (w.alloc (.cells cs e fr)) = .ok (.string (ofL l)) (w.alloc (.cells cs e fr)) := by
  subst hcs hm hn
  have := Lib.run_convert_whole (P := P) (w.alloc (.cells (byteCells l) e fr)) src e dst hs he hd w.heap.size 0 (ofL l) (bytes_new w l e fr _ rfl) cap
  rw [size_ofL] at this
  exact this
end Go.Proofs.YtphiahlodjblcaaDoor.Kit
