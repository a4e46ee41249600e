/- The types of the translation that the programs use. -/
import Derived.Test.YtoddkagehbcfjaaProg
import Derived.Test.YtoddkagehbcfjaaLxK
set_option linter.unusedVariables false
set_option linter.unusedSimpArgs false
namespace Go.Proofs.Ytoddkagehbcfjaa.Lx
open Go Go.Proofs
/-! ring_line -/
structure ring_line where
  at_ : Sl
  first : Int
  n : Int
  deriving DecidableEq
def z_ring_line : ring_line := ⟨Sl.nil, 0, 0⟩
instance : Inhabited ring_line := ⟨z_ring_line⟩
def c_ring_line : Cod ring_line := (cL.pair ((cI .i64).pair (cI .i64))).iso (fun x => (x.at_, x.first, x.n)) (fun p => ⟨p.1, p.2.1, p.2.2⟩) (fun _ => rfl) (fun _ => rfl)
theorem At_ring_line_at_ (x : ring_line) : At (c_ring_line.enc x) 0 (cL.enc x.at_) := At.fst
theorem Up_ring_line_at_ (x : ring_line) (y : Sl) : Upd (c_ring_line.enc x) 0 (cL.enc y) (c_ring_line.enc (⟨y, x.first, x.n⟩ : ring_line)) := Upd.fst
theorem At_ring_line_first (x : ring_line) : At (c_ring_line.enc x) 1 ((cI .i64).enc x.first) := At.snd (At.fst)
theorem Up_ring_line_first (x : ring_line) (y : Int) : Upd (c_ring_line.enc x) 1 ((cI .i64).enc y) (c_ring_line.enc (⟨x.at_, y, x.n⟩ : ring_line)) := Upd.snd (Upd.fst)
theorem At_ring_line_n (x : ring_line) : At (c_ring_line.enc x) 2 ((cI .i64).enc x.n) := At.snd (At.last)
theorem Up_ring_line_n (x : ring_line) (y : Int) : Upd (c_ring_line.enc x) 2 ((cI .i64).enc y) (c_ring_line.enc (⟨x.at_, x.first, y⟩ : ring_line)) := Upd.snd (Upd.last)
/-! ring_Port -/
structure ring_Port where
  size : Int
  rx : Int
  tx : Int
  pool : Sl
  place : Sl
  length : Sl
  free : ring_line
  posted : ring_line
  filled : ring_line
  queued : ring_line
  deriving DecidableEq
def z_ring_Port : ring_Port := ⟨0, 0, 0, Sl.nil, Sl.nil, Sl.nil, z_ring_line, z_ring_line, z_ring_line, z_ring_line⟩
instance : Inhabited ring_Port := ⟨z_ring_Port⟩
def c_ring_Port : Cod ring_Port := ((cI .i64).pair ((cI .i64).pair ((cI .i64).pair (cL.pair (cL.pair (cL.pair (c_ring_line.pair (c_ring_line.pair (c_ring_line.pair c_ring_line))))))))).iso (fun x => (x.size, x.rx, x.tx, x.pool, x.place, x.length, x.free, x.posted, x.filled, x.queued)) (fun p => ⟨p.1, p.2.1, p.2.2.1, p.2.2.2.1, p.2.2.2.2.1, p.2.2.2.2.2.1, p.2.2.2.2.2.2.1, p.2.2.2.2.2.2.2.1, p.2.2.2.2.2.2.2.2.1, p.2.2.2.2.2.2.2.2.2⟩) (fun _ => rfl) (fun _ => rfl)
theorem At_ring_Port_size (x : ring_Port) : At (c_ring_Port.enc x) 0 ((cI .i64).enc x.size) := At.fst
theorem Up_ring_Port_size (x : ring_Port) (y : Int) : Upd (c_ring_Port.enc x) 0 ((cI .i64).enc y) (c_ring_Port.enc (⟨y, x.rx, x.tx, x.pool, x.place, x.length, x.free, x.posted, x.filled, x.queued⟩ : ring_Port)) := Upd.fst
theorem At_ring_Port_rx (x : ring_Port) : At (c_ring_Port.enc x) 1 ((cI .i64).enc x.rx) := At.snd (At.fst)
theorem Up_ring_Port_rx (x : ring_Port) (y : Int) : Upd (c_ring_Port.enc x) 1 ((cI .i64).enc y) (c_ring_Port.enc (⟨x.size, y, x.tx, x.pool, x.place, x.length, x.free, x.posted, x.filled, x.queued⟩ : ring_Port)) := Upd.snd (Upd.fst)
theorem At_ring_Port_tx (x : ring_Port) : At (c_ring_Port.enc x) 2 ((cI .i64).enc x.tx) := At.snd (At.snd (At.fst))
theorem Up_ring_Port_tx (x : ring_Port) (y : Int) : Upd (c_ring_Port.enc x) 2 ((cI .i64).enc y) (c_ring_Port.enc (⟨x.size, x.rx, y, x.pool, x.place, x.length, x.free, x.posted, x.filled, x.queued⟩ : ring_Port)) := Upd.snd (Upd.snd (Upd.fst))
theorem At_ring_Port_pool (x : ring_Port) : At (c_ring_Port.enc x) 3 (cL.enc x.pool) := At.snd (At.snd (At.snd (At.fst)))
theorem Up_ring_Port_pool (x : ring_Port) (y : Sl) : Upd (c_ring_Port.enc x) 3 (cL.enc y) (c_ring_Port.enc (⟨x.size, x.rx, x.tx, y, x.place, x.length, x.free, x.posted, x.filled, x.queued⟩ : ring_Port)) := Upd.snd (Upd.snd (Upd.snd (Upd.fst)))
theorem At_ring_Port_place (x : ring_Port) : At (c_ring_Port.enc x) 4 (cL.enc x.place) := At.snd (At.snd (At.snd (At.snd (At.fst))))
theorem Up_ring_Port_place (x : ring_Port) (y : Sl) : Upd (c_ring_Port.enc x) 4 (cL.enc y) (c_ring_Port.enc (⟨x.size, x.rx, x.tx, x.pool, y, x.length, x.free, x.posted, x.filled, x.queued⟩ : ring_Port)) := Upd.snd (Upd.snd (Upd.snd (Upd.snd (Upd.fst))))
theorem At_ring_Port_length (x : ring_Port) : At (c_ring_Port.enc x) 5 (cL.enc x.length) := At.snd (At.snd (At.snd (At.snd (At.snd (At.fst)))))
theorem Up_ring_Port_length (x : ring_Port) (y : Sl) : Upd (c_ring_Port.enc x) 5 (cL.enc y) (c_ring_Port.enc (⟨x.size, x.rx, x.tx, x.pool, x.place, y, x.free, x.posted, x.filled, x.queued⟩ : ring_Port)) := Upd.snd (Upd.snd (Upd.snd (Upd.snd (Upd.snd (Upd.fst)))))
theorem At_ring_Port_free (x : ring_Port) : At (c_ring_Port.enc x) 6 (c_ring_line.enc x.free) := At.snd (At.snd (At.snd (At.snd (At.snd (At.snd (At.fst))))))
theorem Up_ring_Port_free (x : ring_Port) (y : ring_line) : Upd (c_ring_Port.enc x) 6 (c_ring_line.enc y) (c_ring_Port.enc (⟨x.size, x.rx, x.tx, x.pool, x.place, x.length, y, x.posted, x.filled, x.queued⟩ : ring_Port)) := Upd.snd (Upd.snd (Upd.snd (Upd.snd (Upd.snd (Upd.snd (Upd.fst))))))
theorem At_ring_Port_posted (x : ring_Port) : At (c_ring_Port.enc x) 9 (c_ring_line.enc x.posted) := At.snd (At.snd (At.snd (At.snd (At.snd (At.snd (At.snd (At.fst)))))))
theorem Up_ring_Port_posted (x : ring_Port) (y : ring_line) : Upd (c_ring_Port.enc x) 9 (c_ring_line.enc y) (c_ring_Port.enc (⟨x.size, x.rx, x.tx, x.pool, x.place, x.length, x.free, y, x.filled, x.queued⟩ : ring_Port)) := Upd.snd (Upd.snd (Upd.snd (Upd.snd (Upd.snd (Upd.snd (Upd.snd (Upd.fst)))))))
theorem At_ring_Port_filled (x : ring_Port) : At (c_ring_Port.enc x) 12 (c_ring_line.enc x.filled) := At.snd (At.snd (At.snd (At.snd (At.snd (At.snd (At.snd (At.snd (At.fst))))))))
theorem Up_ring_Port_filled (x : ring_Port) (y : ring_line) : Upd (c_ring_Port.enc x) 12 (c_ring_line.enc y) (c_ring_Port.enc (⟨x.size, x.rx, x.tx, x.pool, x.place, x.length, x.free, x.posted, y, x.queued⟩ : ring_Port)) := Upd.snd (Upd.snd (Upd.snd (Upd.snd (Upd.snd (Upd.snd (Upd.snd (Upd.snd (Upd.fst))))))))
theorem At_ring_Port_queued (x : ring_Port) : At (c_ring_Port.enc x) 15 (c_ring_line.enc x.queued) := At.snd (At.snd (At.snd (At.snd (At.snd (At.snd (At.snd (At.snd (At.last))))))))
theorem Up_ring_Port_queued (x : ring_Port) (y : ring_line) : Upd (c_ring_Port.enc x) 15 (c_ring_line.enc y) (c_ring_Port.enc (⟨x.size, x.rx, x.tx, x.pool, x.place, x.length, x.free, x.posted, x.filled, y⟩ : ring_Port)) := Upd.snd (Upd.snd (Upd.snd (Upd.snd (Upd.snd (Upd.snd (Upd.snd (Upd.snd (Upd.last))))))))
/-! weirref3_Port -/
structure weirref3_Port where
  Rx : Int
  Tx : Int
  Size : Int
  L : Sl
  Now : Int
  deriving DecidableEq
def z_weirref3_Port : weirref3_Port := ⟨0, 0, 0, Sl.nil, 0⟩
instance : Inhabited weirref3_Port := ⟨z_weirref3_Port⟩
def c_weirref3_Port : Cod weirref3_Port := ((cI .i64).pair ((cI .i64).pair ((cI .i64).pair (cL.pair (cI .i64))))).iso (fun x => (x.Rx, x.Tx, x.Size, x.L, x.Now)) (fun p => ⟨p.1, p.2.1, p.2.2.1, p.2.2.2.1, p.2.2.2.2⟩) (fun _ => rfl) (fun _ => rfl)
theorem At_weirref3_Port_Rx (x : weirref3_Port) : At (c_weirref3_Port.enc x) 0 ((cI .i64).enc x.Rx) := At.fst
theorem Up_weirref3_Port_Rx (x : weirref3_Port) (y : Int) : Upd (c_weirref3_Port.enc x) 0 ((cI .i64).enc y) (c_weirref3_Port.enc (⟨y, x.Tx, x.Size, x.L, x.Now⟩ : weirref3_Port)) := Upd.fst
theorem At_weirref3_Port_Tx (x : weirref3_Port) : At (c_weirref3_Port.enc x) 1 ((cI .i64).enc x.Tx) := At.snd (At.fst)
theorem Up_weirref3_Port_Tx (x : weirref3_Port) (y : Int) : Upd (c_weirref3_Port.enc x) 1 ((cI .i64).enc y) (c_weirref3_Port.enc (⟨x.Rx, y, x.Size, x.L, x.Now⟩ : weirref3_Port)) := Upd.snd (Upd.fst)
theorem At_weirref3_Port_Size (x : weirref3_Port) : At (c_weirref3_Port.enc x) 2 ((cI .i64).enc x.Size) := At.snd (At.snd (At.fst))
theorem Up_weirref3_Port_Size (x : weirref3_Port) (y : Int) : Upd (c_weirref3_Port.enc x) 2 ((cI .i64).enc y) (c_weirref3_Port.enc (⟨x.Rx, x.Tx, y, x.L, x.Now⟩ : weirref3_Port)) := Upd.snd (Upd.snd (Upd.fst))
theorem At_weirref3_Port_L (x : weirref3_Port) : At (c_weirref3_Port.enc x) 3 (cL.enc x.L) := At.snd (At.snd (At.snd (At.fst)))
theorem Up_weirref3_Port_L (x : weirref3_Port) (y : Sl) : Upd (c_weirref3_Port.enc x) 3 (cL.enc y) (c_weirref3_Port.enc (⟨x.Rx, x.Tx, x.Size, y, x.Now⟩ : weirref3_Port)) := Upd.snd (Upd.snd (Upd.snd (Upd.fst)))
theorem At_weirref3_Port_Now (x : weirref3_Port) : At (c_weirref3_Port.enc x) 4 ((cI .i64).enc x.Now) := At.snd (At.snd (At.snd (At.last)))
theorem Up_weirref3_Port_Now (x : weirref3_Port) (y : Int) : Upd (c_weirref3_Port.enc x) 4 ((cI .i64).enc y) (c_weirref3_Port.enc (⟨x.Rx, x.Tx, x.Size, x.L, y⟩ : weirref3_Port)) := Upd.snd (Upd.snd (Upd.snd (Upd.last)))
/-! weirref3_Buf -/
structure weirref3_Buf where
  Place : Int
  Since : Int
  N : Int
  Data : Sl
  deriving DecidableEq
def z_weirref3_Buf : weirref3_Buf := ⟨0, 0, 0, Sl.nil⟩
instance : Inhabited weirref3_Buf := ⟨z_weirref3_Buf⟩
def c_weirref3_Buf : Cod weirref3_Buf := ((cI .i64).pair ((cI .i64).pair ((cI .i64).pair cL))).iso (fun x => (x.Place, x.Since, x.N, x.Data)) (fun p => ⟨p.1, p.2.1, p.2.2.1, p.2.2.2⟩) (fun _ => rfl) (fun _ => rfl)
theorem At_weirref3_Buf_Place (x : weirref3_Buf) : At (c_weirref3_Buf.enc x) 0 ((cI .i64).enc x.Place) := At.fst
theorem Up_weirref3_Buf_Place (x : weirref3_Buf) (y : Int) : Upd (c_weirref3_Buf.enc x) 0 ((cI .i64).enc y) (c_weirref3_Buf.enc (⟨y, x.Since, x.N, x.Data⟩ : weirref3_Buf)) := Upd.fst
theorem At_weirref3_Buf_Since (x : weirref3_Buf) : At (c_weirref3_Buf.enc x) 1 ((cI .i64).enc x.Since) := At.snd (At.fst)
theorem Up_weirref3_Buf_Since (x : weirref3_Buf) (y : Int) : Upd (c_weirref3_Buf.enc x) 1 ((cI .i64).enc y) (c_weirref3_Buf.enc (⟨x.Place, y, x.N, x.Data⟩ : weirref3_Buf)) := Upd.snd (Upd.fst)
theorem At_weirref3_Buf_N (x : weirref3_Buf) : At (c_weirref3_Buf.enc x) 2 ((cI .i64).enc x.N) := At.snd (At.snd (At.fst))
theorem Up_weirref3_Buf_N (x : weirref3_Buf) (y : Int) : Upd (c_weirref3_Buf.enc x) 2 ((cI .i64).enc y) (c_weirref3_Buf.enc (⟨x.Place, x.Since, y, x.Data⟩ : weirref3_Buf)) := Upd.snd (Upd.snd (Upd.fst))
theorem At_weirref3_Buf_Data (x : weirref3_Buf) : At (c_weirref3_Buf.enc x) 3 (cL.enc x.Data) := At.snd (At.snd (At.last))
theorem Up_weirref3_Buf_Data (x : weirref3_Buf) (y : Sl) : Upd (c_weirref3_Buf.enc x) 3 (cL.enc y) (c_weirref3_Buf.enc (⟨x.Place, x.Since, x.N, y⟩ : weirref3_Buf)) := Upd.snd (Upd.snd (Upd.last))
/-! weirlaw3_Side -/
structure weirlaw3_Side where
  P : (Option Addr)
  R : weirref3_Port
  W : Sl
  deriving DecidableEq
def z_weirlaw3_Side : weirlaw3_Side := ⟨none, z_weirref3_Port, Sl.nil⟩
instance : Inhabited weirlaw3_Side := ⟨z_weirlaw3_Side⟩
def c_weirlaw3_Side : Cod weirlaw3_Side := (cP.pair (c_weirref3_Port.pair cL)).iso (fun x => (x.P, x.R, x.W)) (fun p => ⟨p.1, p.2.1, p.2.2⟩) (fun _ => rfl) (fun _ => rfl)
theorem At_weirlaw3_Side_P (x : weirlaw3_Side) : At (c_weirlaw3_Side.enc x) 0 (cP.enc x.P) := At.fst
theorem Up_weirlaw3_Side_P (x : weirlaw3_Side) (y : (Option Addr)) : Upd (c_weirlaw3_Side.enc x) 0 (cP.enc y) (c_weirlaw3_Side.enc (⟨y, x.R, x.W⟩ : weirlaw3_Side)) := Upd.fst
theorem At_weirlaw3_Side_R (x : weirlaw3_Side) : At (c_weirlaw3_Side.enc x) 1 (c_weirref3_Port.enc x.R) := At.snd (At.fst)
theorem Up_weirlaw3_Side_R (x : weirlaw3_Side) (y : weirref3_Port) : Upd (c_weirlaw3_Side.enc x) 1 (c_weirref3_Port.enc y) (c_weirlaw3_Side.enc (⟨x.P, y, x.W⟩ : weirlaw3_Side)) := Upd.snd (Upd.fst)
theorem At_weirlaw3_Side_W (x : weirlaw3_Side) : At (c_weirlaw3_Side.enc x) 6 (cL.enc x.W) := At.snd (At.last)
theorem Up_weirlaw3_Side_W (x : weirlaw3_Side) (y : Sl) : Upd (c_weirlaw3_Side.enc x) 6 (cL.enc y) (c_weirlaw3_Side.enc (⟨x.P, x.R, y⟩ : weirlaw3_Side)) := Upd.snd (Upd.last)
/-! weirlaw3_Op -/
structure weirlaw3_Op where
  Kind : Int
  Two : Bool
  I : Int
  N : Int
  B : Sl
  deriving DecidableEq
def z_weirlaw3_Op : weirlaw3_Op := ⟨0, false, 0, 0, Sl.nil⟩
instance : Inhabited weirlaw3_Op := ⟨z_weirlaw3_Op⟩
def c_weirlaw3_Op : Cod weirlaw3_Op := ((cI .i64).pair (cB.pair ((cI .i64).pair ((cI .i64).pair cL)))).iso (fun x => (x.Kind, x.Two, x.I, x.N, x.B)) (fun p => ⟨p.1, p.2.1, p.2.2.1, p.2.2.2.1, p.2.2.2.2⟩) (fun _ => rfl) (fun _ => rfl)
theorem At_weirlaw3_Op_Kind (x : weirlaw3_Op) : At (c_weirlaw3_Op.enc x) 0 ((cI .i64).enc x.Kind) := At.fst
theorem Up_weirlaw3_Op_Kind (x : weirlaw3_Op) (y : Int) : Upd (c_weirlaw3_Op.enc x) 0 ((cI .i64).enc y) (c_weirlaw3_Op.enc (⟨y, x.Two, x.I, x.N, x.B⟩ : weirlaw3_Op)) := Upd.fst
theorem At_weirlaw3_Op_Two (x : weirlaw3_Op) : At (c_weirlaw3_Op.enc x) 1 (cB.enc x.Two) := At.snd (At.fst)
theorem Up_weirlaw3_Op_Two (x : weirlaw3_Op) (y : Bool) : Upd (c_weirlaw3_Op.enc x) 1 (cB.enc y) (c_weirlaw3_Op.enc (⟨x.Kind, y, x.I, x.N, x.B⟩ : weirlaw3_Op)) := Upd.snd (Upd.fst)
theorem At_weirlaw3_Op_I (x : weirlaw3_Op) : At (c_weirlaw3_Op.enc x) 2 ((cI .i64).enc x.I) := At.snd (At.snd (At.fst))
theorem Up_weirlaw3_Op_I (x : weirlaw3_Op) (y : Int) : Upd (c_weirlaw3_Op.enc x) 2 ((cI .i64).enc y) (c_weirlaw3_Op.enc (⟨x.Kind, x.Two, y, x.N, x.B⟩ : weirlaw3_Op)) := Upd.snd (Upd.snd (Upd.fst))
theorem At_weirlaw3_Op_N (x : weirlaw3_Op) : At (c_weirlaw3_Op.enc x) 3 ((cI .i64).enc x.N) := At.snd (At.snd (At.snd (At.fst)))
theorem Up_weirlaw3_Op_N (x : weirlaw3_Op) (y : Int) : Upd (c_weirlaw3_Op.enc x) 3 ((cI .i64).enc y) (c_weirlaw3_Op.enc (⟨x.Kind, x.Two, x.I, y, x.B⟩ : weirlaw3_Op)) := Upd.snd (Upd.snd (Upd.snd (Upd.fst)))
theorem At_weirlaw3_Op_B (x : weirlaw3_Op) : At (c_weirlaw3_Op.enc x) 4 (cL.enc x.B) := At.snd (At.snd (At.snd (At.last)))
theorem Up_weirlaw3_Op_B (x : weirlaw3_Op) (y : Sl) : Upd (c_weirlaw3_Op.enc x) 4 (cL.enc y) (c_weirlaw3_Op.enc (⟨x.Kind, x.Two, x.I, x.N, y⟩ : weirlaw3_Op)) := Upd.snd (Upd.snd (Upd.snd (Upd.last)))
/-! weirlaw3_Win -/
structure weirlaw3_Win where
  B : Sl
  I : Int
  deriving DecidableEq
def z_weirlaw3_Win : weirlaw3_Win := ⟨Sl.nil, 0⟩
instance : Inhabited weirlaw3_Win := ⟨z_weirlaw3_Win⟩
def c_weirlaw3_Win : Cod weirlaw3_Win := (cL.pair (cI .i64)).iso (fun x => (x.B, x.I)) (fun p => ⟨p.1, p.2⟩) (fun _ => rfl) (fun _ => rfl)
theorem At_weirlaw3_Win_B (x : weirlaw3_Win) : At (c_weirlaw3_Win.enc x) 0 (cL.enc x.B) := At.fst
theorem Up_weirlaw3_Win_B (x : weirlaw3_Win) (y : Sl) : Upd (c_weirlaw3_Win.enc x) 0 (cL.enc y) (c_weirlaw3_Win.enc (⟨y, x.I⟩ : weirlaw3_Win)) := Upd.fst
theorem At_weirlaw3_Win_I (x : weirlaw3_Win) : At (c_weirlaw3_Win.enc x) 1 ((cI .i64).enc x.I) := At.last
theorem Up_weirlaw3_Win_I (x : weirlaw3_Win) (y : Int) : Upd (c_weirlaw3_Win.enc x) 1 ((cI .i64).enc y) (c_weirlaw3_Win.enc (⟨x.B, y⟩ : weirlaw3_Win)) := Upd.last
/-! api_RingStat -/
structure api_RingStat where
  Free : Int
  Posted : Int
  Filled : Int
  Held : Int
  Queued : Int
  deriving DecidableEq
def z_api_RingStat : api_RingStat := ⟨0, 0, 0, 0, 0⟩
instance : Inhabited api_RingStat := ⟨z_api_RingStat⟩
def c_api_RingStat : Cod api_RingStat := ((cI .i64).pair ((cI .i64).pair ((cI .i64).pair ((cI .i64).pair (cI .i64))))).iso (fun x => (x.Free, x.Posted, x.Filled, x.Held, x.Queued)) (fun p => ⟨p.1, p.2.1, p.2.2.1, p.2.2.2.1, p.2.2.2.2⟩) (fun _ => rfl) (fun _ => rfl)
theorem At_api_RingStat_Free (x : api_RingStat) : At (c_api_RingStat.enc x) 0 ((cI .i64).enc x.Free) := At.fst
theorem Up_api_RingStat_Free (x : api_RingStat) (y : Int) : Upd (c_api_RingStat.enc x) 0 ((cI .i64).enc y) (c_api_RingStat.enc (⟨y, x.Posted, x.Filled, x.Held, x.Queued⟩ : api_RingStat)) := Upd.fst
theorem At_api_RingStat_Posted (x : api_RingStat) : At (c_api_RingStat.enc x) 1 ((cI .i64).enc x.Posted) := At.snd (At.fst)
theorem Up_api_RingStat_Posted (x : api_RingStat) (y : Int) : Upd (c_api_RingStat.enc x) 1 ((cI .i64).enc y) (c_api_RingStat.enc (⟨x.Free, y, x.Filled, x.Held, x.Queued⟩ : api_RingStat)) := Upd.snd (Upd.fst)
theorem At_api_RingStat_Filled (x : api_RingStat) : At (c_api_RingStat.enc x) 2 ((cI .i64).enc x.Filled) := At.snd (At.snd (At.fst))
theorem Up_api_RingStat_Filled (x : api_RingStat) (y : Int) : Upd (c_api_RingStat.enc x) 2 ((cI .i64).enc y) (c_api_RingStat.enc (⟨x.Free, x.Posted, y, x.Held, x.Queued⟩ : api_RingStat)) := Upd.snd (Upd.snd (Upd.fst))
theorem At_api_RingStat_Held (x : api_RingStat) : At (c_api_RingStat.enc x) 3 ((cI .i64).enc x.Held) := At.snd (At.snd (At.snd (At.fst)))
theorem Up_api_RingStat_Held (x : api_RingStat) (y : Int) : Upd (c_api_RingStat.enc x) 3 ((cI .i64).enc y) (c_api_RingStat.enc (⟨x.Free, x.Posted, x.Filled, y, x.Queued⟩ : api_RingStat)) := Upd.snd (Upd.snd (Upd.snd (Upd.fst)))
theorem At_api_RingStat_Queued (x : api_RingStat) : At (c_api_RingStat.enc x) 4 ((cI .i64).enc x.Queued) := At.snd (At.snd (At.snd (At.last)))
theorem Up_api_RingStat_Queued (x : api_RingStat) (y : Int) : Upd (c_api_RingStat.enc x) 4 ((cI .i64).enc y) (c_api_RingStat.enc (⟨x.Free, x.Posted, x.Filled, x.Held, y⟩ : api_RingStat)) := Upd.snd (Upd.snd (Upd.snd (Upd.last)))
/-! weirlaw3_Desk -/
structure weirlaw3_Desk where
  Room : Sl
  N : Int
  deriving DecidableEq
def z_weirlaw3_Desk : weirlaw3_Desk := ⟨Sl.nil, 0⟩
instance : Inhabited weirlaw3_Desk := ⟨z_weirlaw3_Desk⟩
def c_weirlaw3_Desk : Cod weirlaw3_Desk := (cL.pair (cI .i64)).iso (fun x => (x.Room, x.N)) (fun p => ⟨p.1, p.2⟩) (fun _ => rfl) (fun _ => rfl)
theorem At_weirlaw3_Desk_Room (x : weirlaw3_Desk) : At (c_weirlaw3_Desk.enc x) 0 (cL.enc x.Room) := At.fst
theorem Up_weirlaw3_Desk_Room (x : weirlaw3_Desk) (y : Sl) : Upd (c_weirlaw3_Desk.enc x) 0 (cL.enc y) (c_weirlaw3_Desk.enc (⟨y, x.N⟩ : weirlaw3_Desk)) := Upd.fst
theorem At_weirlaw3_Desk_N (x : weirlaw3_Desk) : At (c_weirlaw3_Desk.enc x) 1 ((cI .i64).enc x.N) := At.last
theorem Up_weirlaw3_Desk_N (x : weirlaw3_Desk) (y : Int) : Upd (c_weirlaw3_Desk.enc x) 1 ((cI .i64).enc y) (c_weirlaw3_Desk.enc (⟨x.Room, y⟩ : weirlaw3_Desk)) := Upd.last
/-! weirlaw3_Book -/
structure weirlaw3_Book where
  L : Sl
  Was : Sl
  deriving DecidableEq
def z_weirlaw3_Book : weirlaw3_Book := ⟨Sl.nil, Sl.nil⟩
instance : Inhabited weirlaw3_Book := ⟨z_weirlaw3_Book⟩
def c_weirlaw3_Book : Cod weirlaw3_Book := (cL.pair cL).iso (fun x => (x.L, x.Was)) (fun p => ⟨p.1, p.2⟩) (fun _ => rfl) (fun _ => rfl)
theorem At_weirlaw3_Book_L (x : weirlaw3_Book) : At (c_weirlaw3_Book.enc x) 0 (cL.enc x.L) := At.fst
theorem Up_weirlaw3_Book_L (x : weirlaw3_Book) (y : Sl) : Upd (c_weirlaw3_Book.enc x) 0 (cL.enc y) (c_weirlaw3_Book.enc (⟨y, x.Was⟩ : weirlaw3_Book)) := Upd.fst
theorem At_weirlaw3_Book_Was (x : weirlaw3_Book) : At (c_weirlaw3_Book.enc x) 1 (cL.enc x.Was) := At.last
theorem Up_weirlaw3_Book_Was (x : weirlaw3_Book) (y : Sl) : Upd (c_weirlaw3_Book.enc x) 1 (cL.enc y) (c_weirlaw3_Book.enc (⟨x.L, y⟩ : weirlaw3_Book)) := Upd.last
theorem Ty3 : Ty Try.prog 3 (cI .i64) 0 := ⟨by kernel_rfl, by kernel_rfl⟩
theorem Ty4 : Ty Try.prog 4 cB false := ⟨by kernel_rfl, by kernel_rfl⟩
theorem Ty5 : Ty Try.prog 5 (cI .u8) 0 := ⟨by kernel_rfl, by kernel_rfl⟩
theorem Ty22 : Ty Try.prog 22 cL Sl.nil := ⟨by kernel_rfl, by kernel_rfl⟩
theorem Ty23 : Ty Try.prog 23 cP none := ⟨by kernel_rfl, by kernel_rfl⟩
theorem Ty43 : Ty Try.prog 43 cL Sl.nil := ⟨by kernel_rfl, by kernel_rfl⟩
theorem Ty45 : Ty Try.prog 45 c_weirlaw3_Op z_weirlaw3_Op := ⟨by kernel_rfl, by kernel_rfl⟩
theorem Ty52 : Ty Try.prog 52 c_api_RingStat z_api_RingStat := ⟨by kernel_rfl, by kernel_rfl⟩
theorem Ty57 : Ty Try.prog 57 cL Sl.nil := ⟨by kernel_rfl, by kernel_rfl⟩
theorem Ty59 : Ty Try.prog 59 c_weirref3_Port z_weirref3_Port := ⟨by kernel_rfl, by kernel_rfl⟩
theorem Ty60 : Ty Try.prog 60 cL Sl.nil := ⟨by kernel_rfl, by kernel_rfl⟩
theorem Ty62 : Ty Try.prog 62 c_weirlaw3_Side z_weirlaw3_Side := ⟨by kernel_rfl, by kernel_rfl⟩
theorem Ty67 : Ty Try.prog 67 cL Sl.nil := ⟨by kernel_rfl, by kernel_rfl⟩
theorem Ty72 : Ty Try.prog 72 c_weirlaw3_Book z_weirlaw3_Book := ⟨by kernel_rfl, by kernel_rfl⟩
theorem Ty82 : Ty Try.prog 82 c_weirlaw3_Desk z_weirlaw3_Desk := ⟨by kernel_rfl, by kernel_rfl⟩
theorem Ty86 : Ty Try.prog 86 c_ring_line z_ring_line := ⟨by kernel_rfl, by kernel_rfl⟩
theorem Ty88 : Ty Try.prog 88 c_ring_Port z_ring_Port := ⟨by kernel_rfl, by kernel_rfl⟩
theorem Ty94 : Ty Try.prog 94 ((cI .i64).arr 6) (Vec.rep 6 0) := ⟨by kernel_rfl, by kernel_rfl⟩
theorem Ty96 : Ty Try.prog 96 (c_weirlaw3_Op.arr 8) (Vec.rep 8 z_weirlaw3_Op) := ⟨by kernel_rfl, by kernel_rfl⟩
theorem Ty110 : Ty Try.prog 110 c_weirref3_Buf z_weirref3_Buf := ⟨by kernel_rfl, by kernel_rfl⟩
theorem Ty116 : Ty Try.prog 116 c_weirlaw3_Win z_weirlaw3_Win := ⟨by kernel_rfl, by kernel_rfl⟩
theorem F13 : Fun Try.prog 13 Try.f13 := ⟨Try.func13, by kernel_rfl, by kernel_rfl⟩
theorem F14 : Fun Try.prog 14 Try.f14 := ⟨Try.func14, by kernel_rfl, by kernel_rfl⟩
theorem F15 : Fun Try.prog 15 Try.f15 := ⟨Try.func15, by kernel_rfl, by kernel_rfl⟩
theorem F16 : Fun Try.prog 16 Try.f16 := ⟨Try.func16, by kernel_rfl, by kernel_rfl⟩
theorem F17 : Fun Try.prog 17 Try.f17 := ⟨Try.func17, by kernel_rfl, by kernel_rfl⟩
theorem F18 : Fun Try.prog 18 Try.f18 := ⟨Try.func18, by kernel_rfl, by kernel_rfl⟩
theorem F19 : Fun Try.prog 19 Try.f19 := ⟨Try.func19, by kernel_rfl, by kernel_rfl⟩
theorem F20 : Fun Try.prog 20 Try.f20 := ⟨Try.func20, by kernel_rfl, by kernel_rfl⟩
theorem F21 : Fun Try.prog 21 Try.f21 := ⟨Try.func21, by kernel_rfl, by kernel_rfl⟩
theorem F22 : Fun Try.prog 22 Try.f22 := ⟨Try.func22, by kernel_rfl, by kernel_rfl⟩
theorem F23 : Fun Try.prog 23 Try.f23 := ⟨Try.func23, by kernel_rfl, by kernel_rfl⟩
theorem F24 : Fun Try.prog 24 Try.f24 := ⟨Try.func24, by kernel_rfl, by kernel_rfl⟩
theorem F25 : Fun Try.prog 25 Try.f25 := ⟨Try.func25, by kernel_rfl, by kernel_rfl⟩
theorem F26 : Fun Try.prog 26 Try.f26 := ⟨Try.func26, by kernel_rfl, by kernel_rfl⟩
theorem F27 : Fun Try.prog 27 Try.f27 := ⟨Try.func27, by kernel_rfl, by kernel_rfl⟩
theorem F28 : Fun Try.prog 28 Try.f28 := ⟨Try.func28, by kernel_rfl, by kernel_rfl⟩
theorem F29 : Fun Try.prog 29 Try.f29 := ⟨Try.func29, by kernel_rfl, by kernel_rfl⟩
theorem F30 : Fun Try.prog 30 Try.f30 := ⟨Try.func30, by kernel_rfl, by kernel_rfl⟩
theorem F31 : Fun Try.prog 31 Try.f31 := ⟨Try.func31, by kernel_rfl, by kernel_rfl⟩
theorem F32 : Fun Try.prog 32 Try.f32 := ⟨Try.func32, by kernel_rfl, by kernel_rfl⟩
theorem F34 : Fun Try.prog 34 Try.f34 := ⟨Try.func34, by kernel_rfl, by kernel_rfl⟩
theorem F37 : Fun Try.prog 37 Try.f37 := ⟨Try.func37, by kernel_rfl, by kernel_rfl⟩
theorem F39 : Fun Try.prog 39 Try.f39 := ⟨Try.func39, by kernel_rfl, by kernel_rfl⟩
theorem F41 : Fun Try.prog 41 Try.f41 := ⟨Try.func41, by kernel_rfl, by kernel_rfl⟩
theorem F42 : Fun Try.prog 42 Try.f42 := ⟨Try.func42, by kernel_rfl, by kernel_rfl⟩
theorem F43 : Fun Try.prog 43 Try.f43 := ⟨Try.func43, by kernel_rfl, by kernel_rfl⟩
theorem F44 : Fun Try.prog 44 Try.f44 := ⟨Try.func44, by kernel_rfl, by kernel_rfl⟩
theorem F45 : Fun Try.prog 45 Try.f45 := ⟨Try.func45, by kernel_rfl, by kernel_rfl⟩
theorem F46 : Fun Try.prog 46 Try.f46 := ⟨Try.func46, by kernel_rfl, by kernel_rfl⟩
theorem F47 : Fun Try.prog 47 Try.f47 := ⟨Try.func47, by kernel_rfl, by kernel_rfl⟩
theorem F48 : Fun Try.prog 48 Try.f48 := ⟨Try.func48, by kernel_rfl, by kernel_rfl⟩
theorem F49 : Fun Try.prog 49 Try.f49 := ⟨Try.func49, by kernel_rfl, by kernel_rfl⟩
theorem F50 : Fun Try.prog 50 Try.f50 := ⟨Try.func50, by kernel_rfl, by kernel_rfl⟩
theorem F51 : Fun Try.prog 51 Try.f51 := ⟨Try.func51, by kernel_rfl, by kernel_rfl⟩
theorem F52 : Fun Try.prog 52 Try.f52 := ⟨Try.func52, by kernel_rfl, by kernel_rfl⟩
theorem F53 : Fun Try.prog 53 Try.f53 := ⟨Try.func53, by kernel_rfl, by kernel_rfl⟩
theorem F54 : Fun Try.prog 54 Try.f54 := ⟨Try.func54, by kernel_rfl, by kernel_rfl⟩
theorem F56 : Fun Try.prog 56 Try.f56 := ⟨Try.func56, by kernel_rfl, by kernel_rfl⟩
theorem F57 : Fun Try.prog 57 Try.f57 := ⟨Try.func57, by kernel_rfl, by kernel_rfl⟩
theorem F58 : Fun Try.prog 58 Try.f58 := ⟨Try.func58, by kernel_rfl, by kernel_rfl⟩
theorem F59 : Fun Try.prog 59 Try.f59 := ⟨Try.func59, by kernel_rfl, by kernel_rfl⟩
theorem F60 : Fun Try.prog 60 Try.f60 := ⟨Try.func60, by kernel_rfl, by kernel_rfl⟩
theorem F61 : Fun Try.prog 61 Try.f61 := ⟨Try.func61, by kernel_rfl, by kernel_rfl⟩
theorem F62 : Fun Try.prog 62 Try.f62 := ⟨Try.func62, by kernel_rfl, by kernel_rfl⟩
theorem F63 : Fun Try.prog 63 Try.f63 := ⟨Try.func63, by kernel_rfl, by kernel_rfl⟩
theorem F64 : Fun Try.prog 64 Try.f64 := ⟨Try.func64, by kernel_rfl, by kernel_rfl⟩
theorem F65 : Fun Try.prog 65 Try.f65 := ⟨Try.func65, by kernel_rfl, by kernel_rfl⟩
theorem F66 : Fun Try.prog 66 Try.f66 := ⟨Try.func66, by kernel_rfl, by kernel_rfl⟩
theorem F67 : Fun Try.prog 67 Try.f67 := ⟨Try.func67, by kernel_rfl, by kernel_rfl⟩
theorem F68 : Fun Try.prog 68 Try.f68 := ⟨Try.func68, by kernel_rfl, by kernel_rfl⟩
theorem F69 : Fun Try.prog 69 Try.f69 := ⟨Try.func69, by kernel_rfl, by kernel_rfl⟩
theorem F70 : Fun Try.prog 70 Try.f70 := ⟨Try.func70, by kernel_rfl, by kernel_rfl⟩
theorem F71 : Fun Try.prog 71 Try.f71 := ⟨Try.func71, by kernel_rfl, by kernel_rfl⟩
theorem F72 : Fun Try.prog 72 Try.f72 := ⟨Try.func72, by kernel_rfl, by kernel_rfl⟩
theorem F73 : Fun Try.prog 73 Try.f73 := ⟨Try.func73, by kernel_rfl, by kernel_rfl⟩
theorem F74 : Fun Try.prog 74 Try.f74 := ⟨Try.func74, by kernel_rfl, by kernel_rfl⟩
theorem F75 : Fun Try.prog 75 Try.f75 := ⟨Try.func75, by kernel_rfl, by kernel_rfl⟩
theorem F76 : Fun Try.prog 76 Try.f76 := ⟨Try.func76, by kernel_rfl, by kernel_rfl⟩
theorem F77 : Fun Try.prog 77 Try.f77 := ⟨Try.func77, by kernel_rfl, by kernel_rfl⟩
theorem F78 : Fun Try.prog 78 Try.f78 := ⟨Try.func78, by kernel_rfl, by kernel_rfl⟩
theorem F79 : Fun Try.prog 79 Try.f79 := ⟨Try.func79, by kernel_rfl, by kernel_rfl⟩
theorem F80 : Fun Try.prog 80 Try.f80 := ⟨Try.func80, by kernel_rfl, by kernel_rfl⟩
theorem Eq3 : EqT Try.prog 3 1 (cI .i64) := EqT.int Try.underlying3
theorem Eq52 : EqT Try.prog 52 2 c_api_RingStat := EqT.struct (D := 1) Try.underlying52 (by kernel_rfl) rfl (fun d hd x y w => EqFs.congr (EqFs.cons rfl Ty3 (At_api_RingStat_Free x) (At_api_RingStat_Free y) Eq3 (by omega) (EqFs.cons rfl Ty3 (At_api_RingStat_Posted x) (At_api_RingStat_Posted y) Eq3 (by omega) (EqFs.cons rfl Ty3 (At_api_RingStat_Filled x) (At_api_RingStat_Filled y) Eq3 (by omega) (EqFs.cons rfl Ty3 (At_api_RingStat_Held x) (At_api_RingStat_Held y) Eq3 (by omega) (EqFs.cons rfl Ty3 (At_api_RingStat_Queued x) (At_api_RingStat_Queued y) Eq3 (by omega) EqFs.nil))))) (by obtain ⟨⟩ := x; obtain ⟨⟩ := y; simp))
theorem mixed : Try.prog.follows .mixedOrders = true := by kernel_rfl
end Go.Proofs.Ytoddkagehbcfjaa.Lx
