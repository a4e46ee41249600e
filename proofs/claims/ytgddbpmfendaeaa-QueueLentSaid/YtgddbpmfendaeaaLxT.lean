/- The types of the translation that the programs use. -/
import Derived.Test.YtgddbpmfendaeaaProg
import Derived.Test.YtgddbpmfendaeaaLxK
set_option linter.unusedVariables false
set_option linter.unusedSimpArgs false
namespace Go.Proofs.Ytgddbpmfendaeaa.Lx
open Go Go.Proofs
/-! api_Class -/
structure api_Class where
  Quantum : Int
  Items : Int
  Bytes : Int
  Rate : Int
  Burst : Int
  deriving DecidableEq
def z_api_Class : api_Class := ⟨0, 0, 0, 0, 0⟩
instance : Inhabited api_Class := ⟨z_api_Class⟩
def c_api_Class : Cod api_Class := ((cI .i64).pair ((cI .i64).pair ((cI .i64).pair ((cI .i64).pair (cI .i64))))).iso (fun x => (x.Quantum, x.Items, x.Bytes, x.Rate, x.Burst)) (fun p => ⟨p.1, p.2.1, p.2.2.1, p.2.2.2.1, p.2.2.2.2⟩) (fun _ => rfl) (fun _ => rfl)
theorem At_api_Class_Quantum (x : api_Class) : At (c_api_Class.enc x) 0 ((cI .i64).enc x.Quantum) := At.fst
theorem Up_api_Class_Quantum (x : api_Class) (y : Int) : Upd (c_api_Class.enc x) 0 ((cI .i64).enc y) (c_api_Class.enc (⟨y, x.Items, x.Bytes, x.Rate, x.Burst⟩ : api_Class)) := Upd.fst
theorem At_api_Class_Items (x : api_Class) : At (c_api_Class.enc x) 1 ((cI .i64).enc x.Items) := At.snd (At.fst)
theorem Up_api_Class_Items (x : api_Class) (y : Int) : Upd (c_api_Class.enc x) 1 ((cI .i64).enc y) (c_api_Class.enc (⟨x.Quantum, y, x.Bytes, x.Rate, x.Burst⟩ : api_Class)) := Upd.snd (Upd.fst)
theorem At_api_Class_Bytes (x : api_Class) : At (c_api_Class.enc x) 2 ((cI .i64).enc x.Bytes) := At.snd (At.snd (At.fst))
theorem Up_api_Class_Bytes (x : api_Class) (y : Int) : Upd (c_api_Class.enc x) 2 ((cI .i64).enc y) (c_api_Class.enc (⟨x.Quantum, x.Items, y, x.Rate, x.Burst⟩ : api_Class)) := Upd.snd (Upd.snd (Upd.fst))
theorem At_api_Class_Rate (x : api_Class) : At (c_api_Class.enc x) 3 ((cI .i64).enc x.Rate) := At.snd (At.snd (At.snd (At.fst)))
theorem Up_api_Class_Rate (x : api_Class) (y : Int) : Upd (c_api_Class.enc x) 3 ((cI .i64).enc y) (c_api_Class.enc (⟨x.Quantum, x.Items, x.Bytes, y, x.Burst⟩ : api_Class)) := Upd.snd (Upd.snd (Upd.snd (Upd.fst)))
theorem At_api_Class_Burst (x : api_Class) : At (c_api_Class.enc x) 4 ((cI .i64).enc x.Burst) := At.snd (At.snd (At.snd (At.last)))
theorem Up_api_Class_Burst (x : api_Class) (y : Int) : Upd (c_api_Class.enc x) 4 ((cI .i64).enc y) (c_api_Class.enc (⟨x.Quantum, x.Items, x.Bytes, x.Rate, y⟩ : api_Class)) := Upd.snd (Upd.snd (Upd.snd (Upd.last)))
/-! queue_turn -/
structure queue_turn where
  deficit : (Vec Int 8)
  at_ : Int
  given : Bool
  deriving DecidableEq
def z_queue_turn : queue_turn := ⟨(Vec.rep 8 0), 0, false⟩
instance : Inhabited queue_turn := ⟨z_queue_turn⟩
def c_queue_turn : Cod queue_turn := (((cI .i64).arr 8).pair ((cI .i64).pair cB)).iso (fun x => (x.deficit, x.at_, x.given)) (fun p => ⟨p.1, p.2.1, p.2.2⟩) (fun _ => rfl) (fun _ => rfl)
theorem At_queue_turn_deficit (x : queue_turn) : At (c_queue_turn.enc x) 0 (((cI .i64).arr 8).enc x.deficit) := At.fst
theorem Up_queue_turn_deficit (x : queue_turn) (y : (Vec Int 8)) : Upd (c_queue_turn.enc x) 0 (((cI .i64).arr 8).enc y) (c_queue_turn.enc (⟨y, x.at_, x.given⟩ : queue_turn)) := Upd.fst
theorem At_queue_turn_at_ (x : queue_turn) : At (c_queue_turn.enc x) 8 ((cI .i64).enc x.at_) := At.snd (At.fst)
theorem Up_queue_turn_at_ (x : queue_turn) (y : Int) : Upd (c_queue_turn.enc x) 8 ((cI .i64).enc y) (c_queue_turn.enc (⟨x.deficit, y, x.given⟩ : queue_turn)) := Upd.snd (Upd.fst)
theorem At_queue_turn_given (x : queue_turn) : At (c_queue_turn.enc x) 9 (cB.enc x.given) := At.snd (At.last)
theorem Up_queue_turn_given (x : queue_turn) (y : Bool) : Upd (c_queue_turn.enc x) 9 (cB.enc y) (c_queue_turn.enc (⟨x.deficit, x.at_, y⟩ : queue_turn)) := Upd.snd (Upd.last)
/-! queue_Queue -/
structure queue_Queue where
  classes : Sl
  turn : queue_turn
  deriving DecidableEq
def z_queue_Queue : queue_Queue := ⟨Sl.nil, z_queue_turn⟩
instance : Inhabited queue_Queue := ⟨z_queue_Queue⟩
def c_queue_Queue : Cod queue_Queue := (cL.pair c_queue_turn).iso (fun x => (x.classes, x.turn)) (fun p => ⟨p.1, p.2⟩) (fun _ => rfl) (fun _ => rfl)
theorem At_queue_Queue_classes (x : queue_Queue) : At (c_queue_Queue.enc x) 0 (cL.enc x.classes) := At.fst
theorem Up_queue_Queue_classes (x : queue_Queue) (y : Sl) : Upd (c_queue_Queue.enc x) 0 (cL.enc y) (c_queue_Queue.enc (⟨y, x.turn⟩ : queue_Queue)) := Upd.fst
theorem At_queue_Queue_turn (x : queue_Queue) : At (c_queue_Queue.enc x) 1 (c_queue_turn.enc x.turn) := At.last
theorem Up_queue_Queue_turn (x : queue_Queue) (y : queue_turn) : Upd (c_queue_Queue.enc x) 1 (c_queue_turn.enc y) (c_queue_Queue.enc (⟨x.classes, y⟩ : queue_Queue)) := Upd.last
/-! queue_line_queue_item -/
structure queue_line_queue_item where
  ring : Sl
  first : Int
  n : Int
  deriving DecidableEq
def z_queue_line_queue_item : queue_line_queue_item := ⟨Sl.nil, 0, 0⟩
instance : Inhabited queue_line_queue_item := ⟨z_queue_line_queue_item⟩
def c_queue_line_queue_item : Cod queue_line_queue_item := (cL.pair ((cI .i64).pair (cI .i64))).iso (fun x => (x.ring, x.first, x.n)) (fun p => ⟨p.1, p.2.1, p.2.2⟩) (fun _ => rfl) (fun _ => rfl)
theorem At_queue_line_queue_item_ring (x : queue_line_queue_item) : At (c_queue_line_queue_item.enc x) 0 (cL.enc x.ring) := At.fst
theorem Up_queue_line_queue_item_ring (x : queue_line_queue_item) (y : Sl) : Upd (c_queue_line_queue_item.enc x) 0 (cL.enc y) (c_queue_line_queue_item.enc (⟨y, x.first, x.n⟩ : queue_line_queue_item)) := Upd.fst
theorem At_queue_line_queue_item_first (x : queue_line_queue_item) : At (c_queue_line_queue_item.enc x) 1 ((cI .i64).enc x.first) := At.snd (At.fst)
theorem Up_queue_line_queue_item_first (x : queue_line_queue_item) (y : Int) : Upd (c_queue_line_queue_item.enc x) 1 ((cI .i64).enc y) (c_queue_line_queue_item.enc (⟨x.ring, y, x.n⟩ : queue_line_queue_item)) := Upd.snd (Upd.fst)
theorem At_queue_line_queue_item_n (x : queue_line_queue_item) : At (c_queue_line_queue_item.enc x) 2 ((cI .i64).enc x.n) := At.snd (At.last)
theorem Up_queue_line_queue_item_n (x : queue_line_queue_item) (y : Int) : Upd (c_queue_line_queue_item.enc x) 2 ((cI .i64).enc y) (c_queue_line_queue_item.enc (⟨x.ring, x.first, y⟩ : queue_line_queue_item)) := Upd.snd (Upd.last)
/-! queue_class -/
structure queue_class where
  c : api_Class
  line : queue_line_queue_item
  bytes : Int
  tokens : Int
  deriving DecidableEq
def z_queue_class : queue_class := ⟨z_api_Class, z_queue_line_queue_item, 0, 0⟩
instance : Inhabited queue_class := ⟨z_queue_class⟩
def c_queue_class : Cod queue_class := (c_api_Class.pair (c_queue_line_queue_item.pair ((cI .i64).pair (cI .i64)))).iso (fun x => (x.c, x.line, x.bytes, x.tokens)) (fun p => ⟨p.1, p.2.1, p.2.2.1, p.2.2.2⟩) (fun _ => rfl) (fun _ => rfl)
theorem At_queue_class_c (x : queue_class) : At (c_queue_class.enc x) 0 (c_api_Class.enc x.c) := At.fst
theorem Up_queue_class_c (x : queue_class) (y : api_Class) : Upd (c_queue_class.enc x) 0 (c_api_Class.enc y) (c_queue_class.enc (⟨y, x.line, x.bytes, x.tokens⟩ : queue_class)) := Upd.fst
theorem At_queue_class_line (x : queue_class) : At (c_queue_class.enc x) 5 (c_queue_line_queue_item.enc x.line) := At.snd (At.fst)
theorem Up_queue_class_line (x : queue_class) (y : queue_line_queue_item) : Upd (c_queue_class.enc x) 5 (c_queue_line_queue_item.enc y) (c_queue_class.enc (⟨x.c, y, x.bytes, x.tokens⟩ : queue_class)) := Upd.snd (Upd.fst)
theorem At_queue_class_bytes (x : queue_class) : At (c_queue_class.enc x) 8 ((cI .i64).enc x.bytes) := At.snd (At.snd (At.fst))
theorem Up_queue_class_bytes (x : queue_class) (y : Int) : Upd (c_queue_class.enc x) 8 ((cI .i64).enc y) (c_queue_class.enc (⟨x.c, x.line, y, x.tokens⟩ : queue_class)) := Upd.snd (Upd.snd (Upd.fst))
theorem At_queue_class_tokens (x : queue_class) : At (c_queue_class.enc x) 9 ((cI .i64).enc x.tokens) := At.snd (At.snd (At.last))
theorem Up_queue_class_tokens (x : queue_class) (y : Int) : Upd (c_queue_class.enc x) 9 ((cI .i64).enc y) (c_queue_class.enc (⟨x.c, x.line, x.bytes, y⟩ : queue_class)) := Upd.snd (Upd.snd (Upd.last))
/-! weirref18_Queue -/
structure weirref18_Queue where
  L : Sl
  At : Int
  Given : Bool
  deriving DecidableEq
def z_weirref18_Queue : weirref18_Queue := ⟨Sl.nil, 0, false⟩
instance : Inhabited weirref18_Queue := ⟨z_weirref18_Queue⟩
def c_weirref18_Queue : Cod weirref18_Queue := (cL.pair ((cI .i64).pair cB)).iso (fun x => (x.L, x.At, x.Given)) (fun p => ⟨p.1, p.2.1, p.2.2⟩) (fun _ => rfl) (fun _ => rfl)
theorem At_weirref18_Queue_L (x : weirref18_Queue) : At (c_weirref18_Queue.enc x) 0 (cL.enc x.L) := At.fst
theorem Up_weirref18_Queue_L (x : weirref18_Queue) (y : Sl) : Upd (c_weirref18_Queue.enc x) 0 (cL.enc y) (c_weirref18_Queue.enc (⟨y, x.At, x.Given⟩ : weirref18_Queue)) := Upd.fst
theorem At_weirref18_Queue_At (x : weirref18_Queue) : At (c_weirref18_Queue.enc x) 1 ((cI .i64).enc x.At) := At.snd (At.fst)
theorem Up_weirref18_Queue_At (x : weirref18_Queue) (y : Int) : Upd (c_weirref18_Queue.enc x) 1 ((cI .i64).enc y) (c_weirref18_Queue.enc (⟨x.L, y, x.Given⟩ : weirref18_Queue)) := Upd.snd (Upd.fst)
theorem At_weirref18_Queue_Given (x : weirref18_Queue) : At (c_weirref18_Queue.enc x) 2 (cB.enc x.Given) := At.snd (At.last)
theorem Up_weirref18_Queue_Given (x : weirref18_Queue) (y : Bool) : Upd (c_weirref18_Queue.enc x) 2 (cB.enc y) (c_weirref18_Queue.enc (⟨x.L, x.At, y⟩ : weirref18_Queue)) := Upd.snd (Upd.last)
/-! weirref18_Line -/
structure weirref18_Line where
  C : api_Class
  L : Sl
  Deficit : Int
  Tokens : Int
  deriving DecidableEq
def z_weirref18_Line : weirref18_Line := ⟨z_api_Class, Sl.nil, 0, 0⟩
instance : Inhabited weirref18_Line := ⟨z_weirref18_Line⟩
def c_weirref18_Line : Cod weirref18_Line := (c_api_Class.pair (cL.pair ((cI .i64).pair (cI .i64)))).iso (fun x => (x.C, x.L, x.Deficit, x.Tokens)) (fun p => ⟨p.1, p.2.1, p.2.2.1, p.2.2.2⟩) (fun _ => rfl) (fun _ => rfl)
theorem At_weirref18_Line_C (x : weirref18_Line) : At (c_weirref18_Line.enc x) 0 (c_api_Class.enc x.C) := At.fst
theorem Up_weirref18_Line_C (x : weirref18_Line) (y : api_Class) : Upd (c_weirref18_Line.enc x) 0 (c_api_Class.enc y) (c_weirref18_Line.enc (⟨y, x.L, x.Deficit, x.Tokens⟩ : weirref18_Line)) := Upd.fst
theorem At_weirref18_Line_L (x : weirref18_Line) : At (c_weirref18_Line.enc x) 5 (cL.enc x.L) := At.snd (At.fst)
theorem Up_weirref18_Line_L (x : weirref18_Line) (y : Sl) : Upd (c_weirref18_Line.enc x) 5 (cL.enc y) (c_weirref18_Line.enc (⟨x.C, y, x.Deficit, x.Tokens⟩ : weirref18_Line)) := Upd.snd (Upd.fst)
theorem At_weirref18_Line_Deficit (x : weirref18_Line) : At (c_weirref18_Line.enc x) 6 ((cI .i64).enc x.Deficit) := At.snd (At.snd (At.fst))
theorem Up_weirref18_Line_Deficit (x : weirref18_Line) (y : Int) : Upd (c_weirref18_Line.enc x) 6 ((cI .i64).enc y) (c_weirref18_Line.enc (⟨x.C, x.L, y, x.Tokens⟩ : weirref18_Line)) := Upd.snd (Upd.snd (Upd.fst))
theorem At_weirref18_Line_Tokens (x : weirref18_Line) : At (c_weirref18_Line.enc x) 7 ((cI .i64).enc x.Tokens) := At.snd (At.snd (At.last))
theorem Up_weirref18_Line_Tokens (x : weirref18_Line) (y : Int) : Upd (c_weirref18_Line.enc x) 7 ((cI .i64).enc y) (c_weirref18_Line.enc (⟨x.C, x.L, x.Deficit, y⟩ : weirref18_Line)) := Upd.snd (Upd.snd (Upd.last))
/-! weirlaw18_Side -/
structure weirlaw18_Side where
  Q : (Option Addr)
  R : weirref18_Queue
  deriving DecidableEq
def z_weirlaw18_Side : weirlaw18_Side := ⟨none, z_weirref18_Queue⟩
instance : Inhabited weirlaw18_Side := ⟨z_weirlaw18_Side⟩
def c_weirlaw18_Side : Cod weirlaw18_Side := (cP.pair c_weirref18_Queue).iso (fun x => (x.Q, x.R)) (fun p => ⟨p.1, p.2⟩) (fun _ => rfl) (fun _ => rfl)
theorem At_weirlaw18_Side_Q (x : weirlaw18_Side) : At (c_weirlaw18_Side.enc x) 0 (cP.enc x.Q) := At.fst
theorem Up_weirlaw18_Side_Q (x : weirlaw18_Side) (y : (Option Addr)) : Upd (c_weirlaw18_Side.enc x) 0 (cP.enc y) (c_weirlaw18_Side.enc (⟨y, x.R⟩ : weirlaw18_Side)) := Upd.fst
theorem At_weirlaw18_Side_R (x : weirlaw18_Side) : At (c_weirlaw18_Side.enc x) 1 (c_weirref18_Queue.enc x.R) := At.last
theorem Up_weirlaw18_Side_R (x : weirlaw18_Side) (y : weirref18_Queue) : Upd (c_weirlaw18_Side.enc x) 1 (c_weirref18_Queue.enc y) (c_weirlaw18_Side.enc (⟨x.Q, y⟩ : weirlaw18_Side)) := Upd.last
/-! queue_item -/
structure queue_item where
  size : Int
  id : Int
  deriving DecidableEq
def z_queue_item : queue_item := ⟨0, 0⟩
instance : Inhabited queue_item := ⟨z_queue_item⟩
def c_queue_item : Cod queue_item := ((cI .i64).pair (cI .i64)).iso (fun x => (x.size, x.id)) (fun p => ⟨p.1, p.2⟩) (fun _ => rfl) (fun _ => rfl)
theorem At_queue_item_size (x : queue_item) : At (c_queue_item.enc x) 0 ((cI .i64).enc x.size) := At.fst
theorem Up_queue_item_size (x : queue_item) (y : Int) : Upd (c_queue_item.enc x) 0 ((cI .i64).enc y) (c_queue_item.enc (⟨y, x.id⟩ : queue_item)) := Upd.fst
theorem At_queue_item_id (x : queue_item) : At (c_queue_item.enc x) 1 ((cI .i64).enc x.id) := At.last
theorem Up_queue_item_id (x : queue_item) (y : Int) : Upd (c_queue_item.enc x) 1 ((cI .i64).enc y) (c_queue_item.enc (⟨x.size, y⟩ : queue_item)) := Upd.last
/-! weirref18_Item -/
structure weirref18_Item where
  Size : Int
  Item : Int
  deriving DecidableEq
def z_weirref18_Item : weirref18_Item := ⟨0, 0⟩
instance : Inhabited weirref18_Item := ⟨z_weirref18_Item⟩
def c_weirref18_Item : Cod weirref18_Item := ((cI .i64).pair (cI .i64)).iso (fun x => (x.Size, x.Item)) (fun p => ⟨p.1, p.2⟩) (fun _ => rfl) (fun _ => rfl)
theorem At_weirref18_Item_Size (x : weirref18_Item) : At (c_weirref18_Item.enc x) 0 ((cI .i64).enc x.Size) := At.fst
theorem Up_weirref18_Item_Size (x : weirref18_Item) (y : Int) : Upd (c_weirref18_Item.enc x) 0 ((cI .i64).enc y) (c_weirref18_Item.enc (⟨y, x.Item⟩ : weirref18_Item)) := Upd.fst
theorem At_weirref18_Item_Item (x : weirref18_Item) : At (c_weirref18_Item.enc x) 1 ((cI .i64).enc x.Item) := At.last
theorem Up_weirref18_Item_Item (x : weirref18_Item) (y : Int) : Upd (c_weirref18_Item.enc x) 1 ((cI .i64).enc y) (c_weirref18_Item.enc (⟨x.Size, y⟩ : weirref18_Item)) := Upd.last
/-! weirlaw18_Op -/
structure weirlaw18_Op where
  Kind : Int
  Two : Bool
  Class : Int
  Size : Int
  Item : Int
  deriving DecidableEq
def z_weirlaw18_Op : weirlaw18_Op := ⟨0, false, 0, 0, 0⟩
instance : Inhabited weirlaw18_Op := ⟨z_weirlaw18_Op⟩
def c_weirlaw18_Op : Cod weirlaw18_Op := ((cI .i64).pair (cB.pair ((cI .i64).pair ((cI .i64).pair (cI .i64))))).iso (fun x => (x.Kind, x.Two, x.Class, x.Size, x.Item)) (fun p => ⟨p.1, p.2.1, p.2.2.1, p.2.2.2.1, p.2.2.2.2⟩) (fun _ => rfl) (fun _ => rfl)
theorem At_weirlaw18_Op_Kind (x : weirlaw18_Op) : At (c_weirlaw18_Op.enc x) 0 ((cI .i64).enc x.Kind) := At.fst
theorem Up_weirlaw18_Op_Kind (x : weirlaw18_Op) (y : Int) : Upd (c_weirlaw18_Op.enc x) 0 ((cI .i64).enc y) (c_weirlaw18_Op.enc (⟨y, x.Two, x.Class, x.Size, x.Item⟩ : weirlaw18_Op)) := Upd.fst
theorem At_weirlaw18_Op_Two (x : weirlaw18_Op) : At (c_weirlaw18_Op.enc x) 1 (cB.enc x.Two) := At.snd (At.fst)
theorem Up_weirlaw18_Op_Two (x : weirlaw18_Op) (y : Bool) : Upd (c_weirlaw18_Op.enc x) 1 (cB.enc y) (c_weirlaw18_Op.enc (⟨x.Kind, y, x.Class, x.Size, x.Item⟩ : weirlaw18_Op)) := Upd.snd (Upd.fst)
theorem At_weirlaw18_Op_Class (x : weirlaw18_Op) : At (c_weirlaw18_Op.enc x) 2 ((cI .i64).enc x.Class) := At.snd (At.snd (At.fst))
theorem Up_weirlaw18_Op_Class (x : weirlaw18_Op) (y : Int) : Upd (c_weirlaw18_Op.enc x) 2 ((cI .i64).enc y) (c_weirlaw18_Op.enc (⟨x.Kind, x.Two, y, x.Size, x.Item⟩ : weirlaw18_Op)) := Upd.snd (Upd.snd (Upd.fst))
theorem At_weirlaw18_Op_Size (x : weirlaw18_Op) : At (c_weirlaw18_Op.enc x) 3 ((cI .i64).enc x.Size) := At.snd (At.snd (At.snd (At.fst)))
theorem Up_weirlaw18_Op_Size (x : weirlaw18_Op) (y : Int) : Upd (c_weirlaw18_Op.enc x) 3 ((cI .i64).enc y) (c_weirlaw18_Op.enc (⟨x.Kind, x.Two, x.Class, y, x.Item⟩ : weirlaw18_Op)) := Upd.snd (Upd.snd (Upd.snd (Upd.fst)))
theorem At_weirlaw18_Op_Item (x : weirlaw18_Op) : At (c_weirlaw18_Op.enc x) 4 ((cI .i64).enc x.Item) := At.snd (At.snd (At.snd (At.last)))
theorem Up_weirlaw18_Op_Item (x : weirlaw18_Op) (y : Int) : Upd (c_weirlaw18_Op.enc x) 4 ((cI .i64).enc y) (c_weirlaw18_Op.enc (⟨x.Kind, x.Two, x.Class, x.Size, y⟩ : weirlaw18_Op)) := Upd.snd (Upd.snd (Upd.snd (Upd.last)))
/-! weirlaw18_Room -/
structure weirlaw18_Room where
  L : Sl
  N : Int
  deriving DecidableEq
def z_weirlaw18_Room : weirlaw18_Room := ⟨Sl.nil, 0⟩
instance : Inhabited weirlaw18_Room := ⟨z_weirlaw18_Room⟩
def c_weirlaw18_Room : Cod weirlaw18_Room := (cL.pair (cI .i64)).iso (fun x => (x.L, x.N)) (fun p => ⟨p.1, p.2⟩) (fun _ => rfl) (fun _ => rfl)
theorem At_weirlaw18_Room_L (x : weirlaw18_Room) : At (c_weirlaw18_Room.enc x) 0 (cL.enc x.L) := At.fst
theorem Up_weirlaw18_Room_L (x : weirlaw18_Room) (y : Sl) : Upd (c_weirlaw18_Room.enc x) 0 (cL.enc y) (c_weirlaw18_Room.enc (⟨y, x.N⟩ : weirlaw18_Room)) := Upd.fst
theorem At_weirlaw18_Room_N (x : weirlaw18_Room) : At (c_weirlaw18_Room.enc x) 1 ((cI .i64).enc x.N) := At.last
theorem Up_weirlaw18_Room_N (x : weirlaw18_Room) (y : Int) : Upd (c_weirlaw18_Room.enc x) 1 ((cI .i64).enc y) (c_weirlaw18_Room.enc (⟨x.L, y⟩ : weirlaw18_Room)) := Upd.last
theorem Ty3 : Ty Try.prog 3 (cI .i64) 0 := ⟨by kernel_rfl, by kernel_rfl⟩
theorem Ty4 : Ty Try.prog 4 cB false := ⟨by kernel_rfl, by kernel_rfl⟩
theorem Ty27 : Ty Try.prog 27 cL Sl.nil := ⟨by kernel_rfl, by kernel_rfl⟩
theorem Ty29 : Ty Try.prog 29 cP none := ⟨by kernel_rfl, by kernel_rfl⟩
theorem Ty41 : Ty Try.prog 41 c_api_Class z_api_Class := ⟨by kernel_rfl, by kernel_rfl⟩
theorem Ty48 : Ty Try.prog 48 c_weirlaw18_Op z_weirlaw18_Op := ⟨by kernel_rfl, by kernel_rfl⟩
theorem Ty69 : Ty Try.prog 69 cL Sl.nil := ⟨by kernel_rfl, by kernel_rfl⟩
theorem Ty71 : Ty Try.prog 71 c_weirref18_Queue z_weirref18_Queue := ⟨by kernel_rfl, by kernel_rfl⟩
theorem Ty73 : Ty Try.prog 73 c_weirlaw18_Side z_weirlaw18_Side := ⟨by kernel_rfl, by kernel_rfl⟩
theorem Ty79 : Ty Try.prog 79 (cL.arr 4) (Vec.rep 4 Sl.nil) := ⟨by kernel_rfl, by kernel_rfl⟩
theorem Ty82 : Ty Try.prog 82 c_weirlaw18_Room z_weirlaw18_Room := ⟨by kernel_rfl, by kernel_rfl⟩
theorem Ty92 : Ty Try.prog 92 cL Sl.nil := ⟨by kernel_rfl, by kernel_rfl⟩
theorem Ty95 : Ty Try.prog 95 c_queue_turn z_queue_turn := ⟨by kernel_rfl, by kernel_rfl⟩
theorem Ty97 : Ty Try.prog 97 c_queue_Queue z_queue_Queue := ⟨by kernel_rfl, by kernel_rfl⟩
theorem Ty100 : Ty Try.prog 100 cL Sl.nil := ⟨by kernel_rfl, by kernel_rfl⟩
theorem Ty104 : Ty Try.prog 104 c_queue_class z_queue_class := ⟨by kernel_rfl, by kernel_rfl⟩
theorem Ty107 : Ty Try.prog 107 c_queue_item z_queue_item := ⟨by kernel_rfl, by kernel_rfl⟩
theorem Ty112 : Ty Try.prog 112 (c_weirlaw18_Op.arr 6) (Vec.rep 6 z_weirlaw18_Op) := ⟨by kernel_rfl, by kernel_rfl⟩
theorem Ty114 : Ty Try.prog 114 cL Sl.nil := ⟨by kernel_rfl, by kernel_rfl⟩
theorem Ty116 : Ty Try.prog 116 c_weirref18_Line z_weirref18_Line := ⟨by kernel_rfl, by kernel_rfl⟩
theorem Ty125 : Ty Try.prog 125 c_weirref18_Item z_weirref18_Item := ⟨by kernel_rfl, by kernel_rfl⟩
theorem F17 : Fun Try.prog 17 Try.f17 := ⟨Try.func17, by kernel_rfl, by kernel_rfl⟩
theorem F18 : Fun Try.prog 18 Try.f18 := ⟨Try.func18, by kernel_rfl, by kernel_rfl⟩
theorem F19 : Fun Try.prog 19 Try.f19 := ⟨Try.func19, by kernel_rfl, by kernel_rfl⟩
theorem F26 : Fun Try.prog 26 Try.f26 := ⟨Try.func26, by kernel_rfl, by kernel_rfl⟩
theorem F31 : Fun Try.prog 31 Try.f31 := ⟨Try.func31, by kernel_rfl, by kernel_rfl⟩
theorem F32 : Fun Try.prog 32 Try.f32 := ⟨Try.func32, by kernel_rfl, by kernel_rfl⟩
theorem F33 : Fun Try.prog 33 Try.f33 := ⟨Try.func33, by kernel_rfl, by kernel_rfl⟩
theorem F34 : Fun Try.prog 34 Try.f34 := ⟨Try.func34, by kernel_rfl, by kernel_rfl⟩
theorem F35 : Fun Try.prog 35 Try.f35 := ⟨Try.func35, by kernel_rfl, by kernel_rfl⟩
theorem F36 : Fun Try.prog 36 Try.f36 := ⟨Try.func36, by kernel_rfl, by kernel_rfl⟩
theorem F38 : Fun Try.prog 38 Try.f38 := ⟨Try.func38, by kernel_rfl, by kernel_rfl⟩
theorem F39 : Fun Try.prog 39 Try.f39 := ⟨Try.func39, by kernel_rfl, by kernel_rfl⟩
theorem F40 : Fun Try.prog 40 Try.f40 := ⟨Try.func40, by kernel_rfl, by kernel_rfl⟩
theorem F41 : Fun Try.prog 41 Try.f41 := ⟨Try.func41, by kernel_rfl, by kernel_rfl⟩
theorem F42 : Fun Try.prog 42 Try.f42 := ⟨Try.func42, by kernel_rfl, by kernel_rfl⟩
theorem F43 : Fun Try.prog 43 Try.f43 := ⟨Try.func43, by kernel_rfl, by kernel_rfl⟩
theorem F44 : Fun Try.prog 44 Try.f44 := ⟨Try.func44, by kernel_rfl, by kernel_rfl⟩
theorem F45 : Fun Try.prog 45 Try.f45 := ⟨Try.func45, by kernel_rfl, by kernel_rfl⟩
theorem F46 : Fun Try.prog 46 Try.f46 := ⟨Try.func46, by kernel_rfl, by kernel_rfl⟩
theorem F47 : Fun Try.prog 47 Try.f47 := ⟨Try.func47, by kernel_rfl, by kernel_rfl⟩
theorem F48 : Fun Try.prog 48 Try.f48 := ⟨Try.func48, by kernel_rfl, by kernel_rfl⟩
theorem F49 : Fun Try.prog 49 Try.f49 := ⟨Try.func49, by kernel_rfl, by kernel_rfl⟩
theorem F50 : Fun Try.prog 50 Try.f50 := ⟨Try.func50, by kernel_rfl, by kernel_rfl⟩
theorem F51 : Fun Try.prog 51 Try.f51 := ⟨Try.func51, by kernel_rfl, by kernel_rfl⟩
theorem F52 : Fun Try.prog 52 Try.f52 := ⟨Try.func52, by kernel_rfl, by kernel_rfl⟩
theorem F53 : Fun Try.prog 53 Try.f53 := ⟨Try.func53, by kernel_rfl, by kernel_rfl⟩
theorem F54 : Fun Try.prog 54 Try.f54 := ⟨Try.func54, by kernel_rfl, by kernel_rfl⟩
theorem F55 : Fun Try.prog 55 Try.f55 := ⟨Try.func55, by kernel_rfl, by kernel_rfl⟩
theorem F56 : Fun Try.prog 56 Try.f56 := ⟨Try.func56, by kernel_rfl, by kernel_rfl⟩
theorem F57 : Fun Try.prog 57 Try.f57 := ⟨Try.func57, by kernel_rfl, by kernel_rfl⟩
theorem F58 : Fun Try.prog 58 Try.f58 := ⟨Try.func58, by kernel_rfl, by kernel_rfl⟩
theorem F59 : Fun Try.prog 59 Try.f59 := ⟨Try.func59, by kernel_rfl, by kernel_rfl⟩
theorem F60 : Fun Try.prog 60 Try.f60 := ⟨Try.func60, by kernel_rfl, by kernel_rfl⟩
theorem F61 : Fun Try.prog 61 Try.f61 := ⟨Try.func61, by kernel_rfl, by kernel_rfl⟩
theorem F62 : Fun Try.prog 62 Try.f62 := ⟨Try.func62, by kernel_rfl, by kernel_rfl⟩
theorem F63 : Fun Try.prog 63 Try.f63 := ⟨Try.func63, by kernel_rfl, by kernel_rfl⟩
theorem F64 : Fun Try.prog 64 Try.f64 := ⟨Try.func64, by kernel_rfl, by kernel_rfl⟩
theorem F65 : Fun Try.prog 65 Try.f65 := ⟨Try.func65, by kernel_rfl, by kernel_rfl⟩
theorem Eq3 : EqT Try.prog 3 1 (cI .i64) := EqT.int Try.underlying3
theorem Eq41 : EqT Try.prog 41 2 c_api_Class := EqT.struct (D := 1) Try.underlying41 (by kernel_rfl) rfl (fun d hd x y w => EqFs.congr (EqFs.cons rfl Ty3 (At_api_Class_Quantum x) (At_api_Class_Quantum y) Eq3 (by omega) (EqFs.cons rfl Ty3 (At_api_Class_Items x) (At_api_Class_Items y) Eq3 (by omega) (EqFs.cons rfl Ty3 (At_api_Class_Bytes x) (At_api_Class_Bytes y) Eq3 (by omega) (EqFs.cons rfl Ty3 (At_api_Class_Rate x) (At_api_Class_Rate y) Eq3 (by omega) (EqFs.cons rfl Ty3 (At_api_Class_Burst x) (At_api_Class_Burst y) Eq3 (by omega) EqFs.nil))))) (by obtain ⟨⟩ := x; obtain ⟨⟩ := y; simp))
theorem mixed : Try.prog.follows .mixedOrders = true := by kernel_rfl
end Go.Proofs.Ytgddbpmfendaeaa.Lx
