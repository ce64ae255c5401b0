import Derived.Test.YthhpelmjnmlgjaaGreatDoorGdUtf
set_option linter.unusedVariables false
namespace Go.Proofs.Gd
open Go Go.Awp
structure Span where
  mLo : ByteArray
  mHi : ByteArray
instance : Inhabited Span := ⟨(⟨⟨#[]⟩, ⟨#[]⟩⟩ : Span)⟩
def eSpan (x : Span) : List D := [.s (.string x.mLo), .s (.string x.mHi)]
theorem teSpan : EncT eSpan 2 := encT_of (fun _ => rfl) (fun _ => rfl)
def vSpan (x : Span) : List Value := [.string x.mLo, .string x.mHi]
def qSpan (a b : Span) : Bool := strEq a.mLo b.mLo && (strEq a.mHi b.mHi && (true))
structure Stamp where
  mWall : Int
  mTick : Int
  mNode : Int
instance : Inhabited Stamp := ⟨(⟨0, 0, 0⟩ : Stamp)⟩
def eStamp (x : Stamp) : List D := [.s (.int .i64 x.mWall), .s (.int .i64 x.mTick), .s (.int .i64 x.mNode)]
theorem teStamp : EncT eStamp 3 := encT_of (fun _ => rfl) (fun _ => rfl)
def vStamp (x : Stamp) : List Value := [.int .i64 x.mWall, .int .i64 x.mTick, .int .i64 x.mNode]
def qStamp (a b : Stamp) : Bool := eqI a.mWall b.mWall && (eqI a.mTick b.mTick && (eqI a.mNode b.mNode && (true)))
structure Version where
  mAt : Stamp
  mGone : Bool
  mValue : ByteArray
instance : Inhabited Version := ⟨(⟨(⟨0, 0, 0⟩ : Stamp), false, ⟨#[]⟩⟩ : Version)⟩
def eVersion (x : Version) : List D := [.s (.int .i64 x.mAt.mWall), .s (.int .i64 x.mAt.mTick), .s (.int .i64 x.mAt.mNode), .s (.bool x.mGone), .s (.string x.mValue)]
theorem teVersion : EncT eVersion 5 := encT_of (fun _ => rfl) (fun _ => rfl)
def vVersion (x : Version) : List Value := [.int .i64 x.mAt.mWall, .int .i64 x.mAt.mTick, .int .i64 x.mAt.mNode, .bool x.mGone, .string x.mValue]
def qVersion (a b : Version) : Bool := qStamp a.mAt b.mAt && ((a.mGone == b.mGone) && (strEq a.mValue b.mValue && (true)))
structure Entry where
  mKey : ByteArray
  mChain : List Version
instance : Inhabited Entry := ⟨(⟨⟨#[]⟩, []⟩ : Entry)⟩
def eEntry (x : Entry) : List D := [.s (.string x.mKey), .sl 5 (x.mChain.map eVersion)]
theorem teEntry : EncT eEntry 2 := encT_of (fun _ => rfl) (fun _ => rfl)
structure Item where
  mKey : ByteArray
  mValue : ByteArray
instance : Inhabited Item := ⟨(⟨⟨#[]⟩, ⟨#[]⟩⟩ : Item)⟩
def eItem (x : Item) : List D := [.s (.string x.mKey), .s (.string x.mValue)]
theorem teItem : EncT eItem 2 := encT_of (fun _ => rfl) (fun _ => rfl)
def vItem (x : Item) : List Value := [.string x.mKey, .string x.mValue]
def qItem (a b : Item) : Bool := strEq a.mKey b.mKey && (strEq a.mValue b.mValue && (true))
structure Answer where
  mErr : Int
  mAt : Stamp
  mFound : Bool
  mValue : ByteArray
  mItems : List Item
  mNext : ByteArray
  mMore : Bool
instance : Inhabited Answer := ⟨(⟨0, (⟨0, 0, 0⟩ : Stamp), false, ⟨#[]⟩, [], ⟨#[]⟩, false⟩ : Answer)⟩
def eAnswer (x : Answer) : List D := [.s (.int .i64 x.mErr), .s (.int .i64 x.mAt.mWall), .s (.int .i64 x.mAt.mTick), .s (.int .i64 x.mAt.mNode), .s (.bool x.mFound), .s (.string x.mValue), .sl 2 (x.mItems.map eItem), .s (.string x.mNext), .s (.bool x.mMore)]
theorem teAnswer : EncT eAnswer 9 := encT_of (fun _ => rfl) (fun _ => rfl)
structure Done where
  mClient : Int
  mReq : Int
  mAnswer : Answer
instance : Inhabited Done := ⟨(⟨0, 0, (⟨0, (⟨0, 0, 0⟩ : Stamp), false, ⟨#[]⟩, [], ⟨#[]⟩, false⟩ : Answer)⟩ : Done)⟩
def eDone (x : Done) : List D := [.s (.int .i64 x.mClient), .s (.int .i64 x.mReq), .s (.int .i64 x.mAnswer.mErr), .s (.int .i64 x.mAnswer.mAt.mWall), .s (.int .i64 x.mAnswer.mAt.mTick), .s (.int .i64 x.mAnswer.mAt.mNode), .s (.bool x.mAnswer.mFound), .s (.string x.mAnswer.mValue), .sl 2 (x.mAnswer.mItems.map eItem), .s (.string x.mAnswer.mNext), .s (.bool x.mAnswer.mMore)]
theorem teDone : EncT eDone 11 := encT_of (fun _ => rfl) (fun _ => rfl)
structure Shard where
  mID : Int
  mEpoch : Int
  mSpan : Span
  mPhase : Int
  mEntries : List Entry
  mMark : Stamp
  mTop : Stamp
  mDone : List Done
  mHold : Int
  mSeen : Int
  mMove : Int
  mClosed : Int
instance : Inhabited Shard := ⟨(⟨0, 0, (⟨⟨#[]⟩, ⟨#[]⟩⟩ : Span), 0, [], (⟨0, 0, 0⟩ : Stamp), (⟨0, 0, 0⟩ : Stamp), [], 0, 0, 0, 0⟩ : Shard)⟩
def eShard (x : Shard) : List D := [.s (.int .i64 x.mID), .s (.int .i64 x.mEpoch), .s (.string x.mSpan.mLo), .s (.string x.mSpan.mHi), .s (.int .i64 x.mPhase), .sl 2 (x.mEntries.map eEntry), .s (.int .i64 x.mMark.mWall), .s (.int .i64 x.mMark.mTick), .s (.int .i64 x.mMark.mNode), .s (.int .i64 x.mTop.mWall), .s (.int .i64 x.mTop.mTick), .s (.int .i64 x.mTop.mNode), .sl 11 (x.mDone.map eDone), .s (.int .i64 x.mHold), .s (.int .i64 x.mSeen), .s (.int .i64 x.mMove), .s (.int .i64 x.mClosed)]
theorem teShard : EncT eShard 17 := encT_of (fun _ => rfl) (fun _ => rfl)
structure Cell where
  mShards : List Shard
  mTop : Stamp
  mDropped : Int
instance : Inhabited Cell := ⟨(⟨[], (⟨0, 0, 0⟩ : Stamp), 0⟩ : Cell)⟩
def eCell (x : Cell) : List D := [.sl 17 (x.mShards.map eShard), .s (.int .i64 x.mTop.mWall), .s (.int .i64 x.mTop.mTick), .s (.int .i64 x.mTop.mNode), .s (.int .i64 x.mDropped)]
theorem teCell : EncT eCell 5 := encT_of (fun _ => rfl) (fun _ => rfl)
structure Request where
  mClient : Int
  mReq : Int
  mKind : Int
  mKey : ByteArray
  mValue : ByteArray
  mHad : Bool
  mOld : ByteArray
  mAt : Stamp
  mHi : ByteArray
  mLimit : Int
instance : Inhabited Request := ⟨(⟨0, 0, 0, ⟨#[]⟩, ⟨#[]⟩, false, ⟨#[]⟩, (⟨0, 0, 0⟩ : Stamp), ⟨#[]⟩, 0⟩ : Request)⟩
def eRequest (x : Request) : List D := [.s (.int .i64 x.mClient), .s (.int .i64 x.mReq), .s (.int .i64 x.mKind), .s (.string x.mKey), .s (.string x.mValue), .s (.bool x.mHad), .s (.string x.mOld), .s (.int .i64 x.mAt.mWall), .s (.int .i64 x.mAt.mTick), .s (.int .i64 x.mAt.mNode), .s (.string x.mHi), .s (.int .i64 x.mLimit)]
theorem teRequest : EncT eRequest 12 := encT_of (fun _ => rfl) (fun _ => rfl)
/- stratigraph/stratigraphref08.Small -/
def F91_l1 (t0 : List Entry) : Nat → Int → Option (LR Bool Unit)
  | 0, _ => none
  | k + 1, t3 =>
    bif (ltI t3 (t0.length : Int)) then (bif inR t3 t0.length then (bif (!(!(ltI 80 ((rd t0 t3).mChain.length : Int))) || inR t3 t0.length) then (bif ((ltI 80 ((rd t0 t3).mChain.length : Int)) || (ltI 100 ((rd t0 t3).mKey.size : Int))) then (some (.ret false)) else (F91_l1 t0 k (IntKind.wrap .i64 (t3 + 1)))) else none) else none) else (some (.out ()))
def F91 (k : Nat) (t0 : List Entry) : Option Bool :=
  bif (ltI 80 (t0.length : Int)) then (some false) else ((F91_l1 t0 k 0).bind fun t => t.go fun _ => some true)
/- stratigraph/stratigraphref10.Small -/
def F92_l1 (t0 : List Done) : Nat → Int → Option (LR Bool Unit)
  | 0, _ => none
  | k + 1, t3 =>
    bif (ltI t3 (t0.length : Int)) then (bif inR t3 t0.length then (bif (ltI 100 ((rd t0 t3).mAnswer.mItems.length : Int)) then (some (.ret false)) else (F92_l1 t0 k (IntKind.wrap .i64 (t3 + 1)))) else none) else (some (.out ()))
def F92 (k : Nat) (t0 : List Done) : Option Bool :=
  bif (ltI 40 (t0.length : Int)) then (some false) else ((F92_l1 t0 k 0).bind fun t => t.go fun _ => some true)
/- stratigraph/stratigraphref11.SmallShard -/
def F27 (k : Nat) (t0 : Shard) : Option Bool :=
  (F91 k t0.mEntries).bind fun t5 => (bif t5 then F92 k t0.mDone else some default).bind fun t9 => some (((t5 && t9) && (ltI (t0.mSpan.mLo.size : Int) 100)) && (ltI (t0.mSpan.mHi.size : Int) 100))
/- stratigraph/stratigraphref11.Small -/
def F14_l1 (t0 : Cell) : Nat → Int → Option (LR Bool Unit)
  | 0, _ => none
  | k + 1, t3 =>
    bif (ltI t3 (t0.mShards.length : Int)) then (bif inR t3 t0.mShards.length then ((F27 k (rd t0.mShards t3)).bind fun t20 => bif (!t20) then (some (.ret false)) else (F14_l1 t0 k (IntKind.wrap .i64 (t3 + 1)))) else none) else (some (.out ()))
def F14 (k : Nat) (t0 : Cell) : Option Bool :=
  bif (ltI 12 (t0.mShards.length : Int)) then (some false) else ((F14_l1 t0 k 0).bind fun t => t.go fun _ => some true)
/- stratigraph/stratigraphlaw11.at -/
def F56 (k : Nat) (t0 : Int) : Option Stamp :=
  some (⟨t0, 0, 0⟩ : Stamp)
/- stratigraph/engine.from$1 -/
def F121 (k : Nat) (t0 : Int) (t1 : Int) : Option Bool :=
  some ((ltI t0 t1) || (ltI 1099511627776 t0))
/- slices.IndexFunc[[]int,int] -/
def F152_121_l1 (t0 : List Int) (t1u0 : Int) : Nat → Int → Option (LR Int Unit)
  | 0, _ => none
  | k + 1, t8 =>
    bif (ltI t8 (t0.length : Int)) then (bif inR t8 t0.length then ((F121 k (rd t0 t8) t1u0).bind fun t16 => bif t16 then (some (.ret t8)) else (F152_121_l1 t0 t1u0 k (IntKind.wrap .i64 (t8 + 1)))) else none) else (some (.out ()))
def F152_121 (k : Nat) (t0 : List Int) (t1u0 : Int) : Option Int :=
  (F152_121_l1 t0 t1u0 k 0).bind fun t => t.go fun _ => some (-1)
/- slices.ContainsFunc[[]int,int] -/
def F120_121 (k : Nat) (t0 : List Int) (t1u0 : Int) : Option Bool :=
  (F152_121 k t0 t1u0).bind fun t7 => some (leI 0 t7)
/- stratigraph/engine.from -/
def F57 (k : Nat) (t0 : Int) (t1 : List Int) : Option Bool :=
  (F120_121 k t1 t0).bind fun t7 => some (!t7)
/- unicode/utf8.DecodeRuneInString -/
def F153 (k : Nat) (t0 : ByteArray) : Option (Int × Int) :=
  bif (!(!strEq t0 (⟨#[]⟩ : ByteArray)) || inR 0 t0.size) then (bif ((!strEq t0 (⟨#[]⟩ : ByteArray)) && (ltI (bt t0 0) 128)) then (bif inR 0 t0.size then (some ((IntKind.wrap .i32 (bt t0 0)), 1)) else none) else ((F174 k t0).bind fun (t16a, t16b) => some (t16a, t16b))) else none
/- stratigraph/key.plain -/
def F154 (k : Nat) (t0 : Int) (t1 : Int) : Option Bool :=
  some (((leI 33 t0) && ((ltI t0 127) || (ltI 159 t0))) && ((!eqI t0 65533) || (eqI t1 3)))
/- stratigraph/key.Right -/
def F122_l1 (t0 : ByteArray) : Nat → Nat → Option (LR Bool Unit)
  | 0, _ => none
  | k + 1, t8p =>
    bif (nxc t0 t8p) then (bif cutOK ((t8p : Nat) : Int) (t0.size : Int) t0.size then ((F153 k (t0.extract ((t8p : Nat) : Int).toNat (t0.size : Int).toNat)).bind fun (t17a, t17b) => (F154 k (nxr t0 t8p) t17b).bind fun t22 => bif (!t22) then (some (.ret false)) else (F122_l1 t0 k (nxw t0 t8p))) else none) else (some (.out ()))
def F122 (k : Nat) (t0 : ByteArray) : Option Bool :=
  (F122_l1 t0 k 0).bind fun t => t.go fun _ => some ((leI 1 (t0.size : Int)) && (leI (t0.size : Int) 16))
/- stratigraph/key.Compare -/
def F124_l1 : Nat → (ByteArray × ByteArray) → Option (LR Int (ByteArray × ByteArray))
  | 0, _ => none
  | k + 1, (t0_2, t1_2) =>
    bif ((!strEq t0_2 (⟨#[]⟩ : ByteArray)) && (!strEq t1_2 (⟨#[]⟩ : ByteArray))) then ((F153 k t0_2).bind fun (t17a, t17b) => (F153 k t1_2).bind fun (t22a, t22b) => bif (ltI t17a t22a) then (some (.ret (-1))) else (bif (ltI t22a t17a) then (some (.ret 1)) else (bif cutOK t17b (t0_2.size : Int) t0_2.size then (bif cutOK t22b (t1_2.size : Int) t1_2.size then (F124_l1 k ((t0_2.extract t17b.toNat (t0_2.size : Int).toNat), (t1_2.extract t22b.toNat (t1_2.size : Int).toNat))) else none) else none))) else (some (.out (t0_2, t1_2)))
def F124 (k : Nat) (t0 : ByteArray) (t1 : ByteArray) : Option Int :=
  (F124_l1 k (t0, t1)).bind fun t => t.go fun (t0_1, t1_1) => bif (!strEq t0_1 (⟨#[]⟩ : ByteArray)) then (some 1) else (bif (!strEq t1_1 (⟨#[]⟩ : ByteArray)) then (some (-1)) else (some 0))
/- stratigraph/span.Right -/
def F80 (k : Nat) (t0 : Span) : Option Bool :=
  (bif (!strEq t0.mLo (⟨#[]⟩ : ByteArray)) then F122 k t0.mLo else some default).bind fun t9 => bif ((!strEq t0.mLo (⟨#[]⟩ : ByteArray)) && (!t9)) then (some false) else ((bif (!(strEq t0.mHi (⟨#[]⟩ : ByteArray))) then F122 k t0.mHi else some default).bind fun t18 => (bif ((!(strEq t0.mHi (⟨#[]⟩ : ByteArray))) && t18) then F124 k t0.mLo t0.mHi else some default).bind fun t24 => some ((strEq t0.mHi (⟨#[]⟩ : ByteArray)) || (t18 && (ltI t24 0))))
/- stratigraph/stamp.within -/
def F100 (k : Nat) (t0 : Int) (t1 : Int) : Option Bool :=
  some ((leI 0 t0) && (leI t0 t1))
/- stratigraph/stamp.Right -/
def F36 (k : Nat) (t0 : Stamp) : Option Bool :=
  (F100 k t0.mWall 1099511627776).bind fun t5 => (bif t5 then F100 k t0.mTick 1048576 else some default).bind fun t9 => (bif (t5 && t9) then F100 k t0.mNode 255 else some default).bind fun t14 => some ((t5 && t9) && t14)
/- stratigraph/chain.right -/
def F166 (k : Nat) (t0 : Version) : Option Bool :=
  (F36 k t0.mAt).bind fun t5 => some ((t5 && (leI (t0.mValue.size : Int) 16)) && ((!t0.mGone) || (strEq t0.mValue (⟨#[]⟩ : ByteArray))))
/- cmp.isNaN[int] -/
def F146 (k : Nat) (t0 : Int) : Option Bool :=
  some (!eqI t0 t0)
/- cmp.Compare[int] -/
def F104 (k : Nat) (t0 : Int) (t1 : Int) : Option Int :=
  (F146 k t0).bind fun t8 => (F146 k t1).bind fun t10 => bif t8 then (bif t10 then (some 0) else (some (-1))) else (bif t10 then (some 1) else (bif (ltI t0 t1) then (some (-1)) else (bif (ltI t1 t0) then (some 1) else (some 0))))
/- cmp.Or[int] -/
def F103_l1 (t0 : List Int) : Nat → Int → Option (LR Int Unit)
  | 0, _ => none
  | k + 1, t8 =>
    bif (ltI t8 (t0.length : Int)) then (bif inR t8 t0.length then (bif (!eqI (rd t0 t8) 0) then (some (.ret (rd t0 t8))) else (F103_l1 t0 k (IntKind.wrap .i64 (t8 + 1)))) else none) else (some (.out ()))
def F103 (k : Nat) (t0 : List Int) : Option Int :=
  (F103_l1 t0 k 0).bind fun t => t.go fun _ => some 0
/- stratigraph/stamp.Compare -/
def F42 (k : Nat) (t0 : Stamp) (t1 : Stamp) : Option Int :=
  (F104 k t0.mWall t1.mWall).bind fun t9 => (F104 k t0.mTick t1.mTick).bind fun t14 => (F104 k t0.mNode t1.mNode).bind fun t19 => (F103 k ([t9, t14, t19])).bind fun t21 => some t21
/- stratigraph/chain.Right -/
def F136_l1 (t0 : List Version) : Nat → Int → Option (LR Bool Unit)
  | 0, _ => none
  | k + 1, t7 =>
    bif (ltI t7 (t0.length : Int)) then (bif inR t7 t0.length then ((F166 k (rd t0 t7)).bind fun t13 => bif (!((!(!t13)) && (ltI 0 t7)) || inR (IntKind.wrap .i64 (t7 - 1)) t0.length) then ((bif ((!(!t13)) && (ltI 0 t7)) then F42 k (rd t0 (IntKind.wrap .i64 (t7 - 1))).mAt (rd t0 t7).mAt else some default).bind fun t27 => bif ((!t13) || ((ltI 0 t7) && (leI 0 t27))) then (some (.ret false)) else (F136_l1 t0 k (IntKind.wrap .i64 (t7 + 1)))) else none) else none) else (some (.out ()))
def F136 (k : Nat) (t0 : List Version) : Option Bool :=
  (F136_l1 t0 k 0).bind fun t => t.go fun _ => some (leI (t0.length : Int) 64)
/- stratigraph/index.Right -/
def F81_l1 (t0 : List Entry) : Nat → Int → Option (LR Bool Unit)
  | 0, _ => none
  | k + 1, t7 =>
    bif (ltI t7 (t0.length : Int)) then (bif inR t7 t0.length then ((F122 k (rd t0 t7).mKey).bind fun t14 => (bif (!(!t14)) then F136 k (rd t0 t7).mChain else some default).bind fun t19 => bif (!((!(((!t14) || (!t19)) || (eqI ((rd t0 t7).mChain.length : Int) 0))) && (ltI 0 t7)) || inR (IntKind.wrap .i64 (t7 - 1)) t0.length) then ((bif ((!(((!t14) || (!t19)) || (eqI ((rd t0 t7).mChain.length : Int) 0))) && (ltI 0 t7)) then F124 k (rd t0 (IntKind.wrap .i64 (t7 - 1))).mKey (rd t0 t7).mKey else some default).bind fun t40 => bif ((((!t14) || (!t19)) || (eqI ((rd t0 t7).mChain.length : Int) 0)) || ((ltI 0 t7) && (leI 0 t40))) then (some (.ret false)) else (F81_l1 t0 k (IntKind.wrap .i64 (t7 + 1)))) else none) else none) else (some (.out ()))
def F81 (k : Nat) (t0 : List Entry) : Option Bool :=
  (F81_l1 t0 k 0).bind fun t => t.go fun _ => some (leI (t0.length : Int) 64)
/- stratigraph/dedup.number -/
def F137 (k : Nat) (t0 : Int) : Option Bool :=
  some ((leI 1 t0) && (leI t0 1099511627776))
/- stratigraph/dedup.plain -/
def F138 (k : Nat) (t0 : Answer) : Option Bool :=
  (bif ((leI 0 t0.mErr) && (leI t0.mErr 16)) then F36 k t0.mAt else some default).bind fun t14 => some (((((((leI 0 t0.mErr) && (leI t0.mErr 16)) && t14) && (leI (t0.mValue.size : Int) 16)) && (eqI (t0.mItems.length : Int) 0)) && (strEq t0.mNext (⟨#[]⟩ : ByteArray))) && (!t0.mMore))
/- stratigraph/dedup.Right -/
def F82_l1 (t0 : List Done) : Nat → (Int × Int) → Option (LR Bool Unit)
  | 0, _ => none
  | k + 1, (t3, t8) =>
    bif (ltI t8 (t0.length : Int)) then (bif inR t8 t0.length then ((bif (!(leI (rd t0 t8).mClient t3)) then F137 k (rd t0 t8).mClient else some default).bind fun t19 => (bif (!((leI (rd t0 t8).mClient t3) || (!t19))) then F137 k (rd t0 t8).mReq else some default).bind fun t25 => (bif (!(((leI (rd t0 t8).mClient t3) || (!t19)) || (!t25))) then F138 k (rd t0 t8).mAnswer else some default).bind fun t31 => bif ((((leI (rd t0 t8).mClient t3) || (!t19)) || (!t25)) || (!t31)) then (some (.ret false)) else (F82_l1 t0 k ((rd t0 t8).mClient, (IntKind.wrap .i64 (t8 + 1))))) else none) else (some (.out ()))
def F82 (k : Nat) (t0 : List Done) : Option Bool :=
  (F82_l1 t0 k (0, 0)).bind fun t => t.go fun _ => some (leI (t0.length : Int) 8)
/- stratigraph/span.Has -/
def F61 (k : Nat) (t0 : Span) (t1 : ByteArray) : Option Bool :=
  (F80 k t0).bind fun t6 => (bif t6 then F122 k t1 else some default).bind fun t9 => (bif (t6 && t9) then F124 k t0.mLo t1 else some default).bind fun t15 => (bif (((t6 && t9) && (leI t15 0)) && (!(strEq t0.mHi (⟨#[]⟩ : ByteArray)))) then F124 k t1 t0.mHi else some default).bind fun t26 => some (((t6 && t9) && (leI t15 0)) && ((strEq t0.mHi (⟨#[]⟩ : ByteArray)) || (ltI t26 0)))
/- stratigraph/engine.RightShard$1 -/
def F84 (k : Nat) (t0 : Entry) (t1 : Shard) : Option Bool :=
  (F61 k t1.mSpan t0.mKey).bind fun t8 => some (!t8)
/- slices.IndexFunc[[]stratigraph/api.Entry,stratigraph/api.Entry] -/
def F139_84_l1 (t0 : List Entry) (t1u0 : Shard) : Nat → Int → Option (LR Int Unit)
  | 0, _ => none
  | k + 1, t8 =>
    bif (ltI t8 (t0.length : Int)) then (bif inR t8 t0.length then ((F84 k (rd t0 t8) t1u0).bind fun t16 => bif t16 then (some (.ret t8)) else (F139_84_l1 t0 t1u0 k (IntKind.wrap .i64 (t8 + 1)))) else none) else (some (.out ()))
def F139_84 (k : Nat) (t0 : List Entry) (t1u0 : Shard) : Option Int :=
  (F139_84_l1 t0 t1u0 k 0).bind fun t => t.go fun _ => some (-1)
/- slices.ContainsFunc[[]stratigraph/api.Entry,stratigraph/api.Entry] -/
def F83_84 (k : Nat) (t0 : List Entry) (t1u0 : Shard) : Option Bool :=
  (F139_84 k t0 t1u0).bind fun t7 => some (leI 0 t7)
/- stratigraph/engine.RightShard -/
def F20 (k : Nat) (t0 : Shard) : Option Bool :=
  (F57 k 1 ([t0.mID, t0.mEpoch])).bind fun t8 => (bif (!(!t8)) then F57 k 0 ([t0.mHold, t0.mSeen, t0.mMove, t0.mClosed]) else some default).bind fun t20 => bif ((((!t8) || (!t20)) || (ltI t0.mPhase 1)) || (ltI 3 t0.mPhase)) then (some false) else ((F80 k t0.mSpan).bind fun t35 => (bif (!(!t35)) then F81 k t0.mEntries else some default).bind fun t40 => (bif (!((!t35) || (!t40))) then F36 k t0.mMark else some default).bind fun t46 => (bif (!(((!t35) || (!t40)) || (!t46))) then F36 k t0.mTop else some default).bind fun t52 => (bif (!((((!t35) || (!t40)) || (!t46)) || (!t52))) then F82 k t0.mDone else some default).bind fun t58 => bif (((((!t35) || (!t40)) || (!t46)) || (!t52)) || (!t58)) then (some false) else ((F83_84 k t0.mEntries t0).bind fun t64 => some (!t64)))
/- stratigraph/engine.upto$1 -/
def F142 (k : Nat) (t0 : Entry) (t1 : Stamp) : Option Bool :=
  bif inR (IntKind.wrap .i64 ((t0.mChain.length : Int) - 1)) t0.mChain.length then ((F42 k (rd t0.mChain (IntKind.wrap .i64 ((t0.mChain.length : Int) - 1))).mAt t1).bind fun t14 => some (ltI 0 t14)) else none
/- slices.IndexFunc[[]stratigraph/api.Entry,stratigraph/api.Entry] -/
def F139_142_l1 (t0 : List Entry) (t1u0 : Stamp) : Nat → Int → Option (LR Int Unit)
  | 0, _ => none
  | k + 1, t8 =>
    bif (ltI t8 (t0.length : Int)) then (bif inR t8 t0.length then ((F142 k (rd t0 t8) t1u0).bind fun t16 => bif t16 then (some (.ret t8)) else (F139_142_l1 t0 t1u0 k (IntKind.wrap .i64 (t8 + 1)))) else none) else (some (.out ()))
def F139_142 (k : Nat) (t0 : List Entry) (t1u0 : Stamp) : Option Int :=
  (F139_142_l1 t0 t1u0 k 0).bind fun t => t.go fun _ => some (-1)
/- slices.ContainsFunc[[]stratigraph/api.Entry,stratigraph/api.Entry] -/
def F83_142 (k : Nat) (t0 : List Entry) (t1u0 : Stamp) : Option Bool :=
  (F139_142 k t0 t1u0).bind fun t7 => some (leI 0 t7)
/- stratigraph/engine.upto -/
def F90 (k : Nat) (t0 : Shard) (t1 : Stamp) : Option Bool :=
  (F83_142 k t0.mEntries t1).bind fun t8 => some (!t8)
/- stratigraph/engine.Right -/
def F25_l1 (t0 : Cell) : Nat → (Int × Int) → Option (LR Bool Unit)
  | 0, _ => none
  | k + 1, (t3, t9) =>
    bif (ltI t9 (t0.mShards.length : Int)) then (bif inR t9 t0.mShards.length then ((bif (!(leI (rd t0.mShards t9).mID t3)) then F20 k (rd t0.mShards t9) else some default).bind fun t19 => (bif (!((leI (rd t0.mShards t9).mID t3) || (!t19))) then F90 k (rd t0.mShards t9) t0.mTop else some default).bind fun t26 => bif (((leI (rd t0.mShards t9).mID t3) || (!t19)) || (!t26)) then (some (.ret false)) else (F25_l1 t0 k ((rd t0.mShards t9).mID, (IntKind.wrap .i64 (t9 + 1))))) else none) else (some (.out ()))
def F25 (k : Nat) (t0 : Cell) : Option Bool :=
  (F25_l1 t0 k (0, 0)).bind fun t => t.go fun _ => (bif (leI (t0.mShards.length : Int) 8) then F36 k t0.mTop else some default).bind fun t39 => (bif ((leI (t0.mShards.length : Int) 8) && t39) then F57 k 0 ([t0.mDropped]) else some default).bind fun t45 => some (((leI (t0.mShards.length : Int) 8) && t39) && t45)
/- stratigraph/engine.RightRequest -/
def F58 (k : Nat) (t0 : Request) : Option Bool :=
  (F57 k 1 ([t0.mClient, t0.mReq])).bind fun t8 => (bif (!(((((((!t8) || (ltI t0.mKind 1)) || (ltI 6 t0.mKind)) || (ltI 16 (t0.mValue.size : Int))) || (ltI 16 (t0.mOld.size : Int))) || (ltI t0.mLimit 0)) || (ltI 8 t0.mLimit))) then F36 k t0.mAt else some default).bind fun t45 => (bif ((!((((((((!t8) || (ltI t0.mKind 1)) || (ltI 6 t0.mKind)) || (ltI 16 (t0.mValue.size : Int))) || (ltI 16 (t0.mOld.size : Int))) || (ltI t0.mLimit 0)) || (ltI 8 t0.mLimit)) || (!t45))) && (!strEq t0.mHi (⟨#[]⟩ : ByteArray))) then F122 k t0.mHi else some default).bind fun t55 => bif (((((((((!t8) || (ltI t0.mKind 1)) || (ltI 6 t0.mKind)) || (ltI 16 (t0.mValue.size : Int))) || (ltI 16 (t0.mOld.size : Int))) || (ltI t0.mLimit 0)) || (ltI 8 t0.mLimit)) || (!t45)) || ((!strEq t0.mHi (⟨#[]⟩ : ByteArray)) && (!t55))) then (some false) else (bif (eqI t0.mKind 6) then ((bif (!(strEq t0.mKey (⟨#[]⟩ : ByteArray))) then F122 k t0.mKey else some default).bind fun t68 => some (((strEq t0.mKey (⟨#[]⟩ : ByteArray)) || t68) && (leI 1 t0.mLimit))) else ((F122 k t0.mKey).bind fun t77 => some t77))
/- stratigraph/engine.fault -/
def F59 (k : Nat) (t0 : Int) : Option Answer :=
  some (⟨t0, (⟨0, 0, 0⟩ : Stamp), false, (⟨#[]⟩ : ByteArray), ([] : List Item), (⟨#[]⟩ : ByteArray), false⟩ : Answer)
/- stratigraph/engine.place$1 -/
def F156 (k : Nat) (t0 : Shard) (t1 : Int) : Option Int :=
  some (IntKind.wrap .i64 (t0.mID - t1))
/- slices.BinarySearchFunc[[]stratigraph/api.Shard,stratigraph/api.Shard,int] -/
def F155_156_l1 (t0 : List Shard) (t1 : Int) : Nat → (Int × Int) → Option Int
  | 0, _ => none
  | k + 1, (t9_1, t10) =>
    bif (ltI t9_1 t10) then (bnd ((shrI .u64 (IntKind.wrap .u64 (IntKind.wrap .i64 (t9_1 + t10))) 1)) fun t22 => bif inR (IntKind.wrap .i64 t22) t0.length then ((F156 k (rd t0 (IntKind.wrap .i64 t22)) t1).bind fun t30 => bif (ltI t30 0) then (F155_156_l1 t0 t1 k ((IntKind.wrap .i64 ((IntKind.wrap .i64 t22) + 1)), t10)) else (F155_156_l1 t0 t1 k (t9_1, (IntKind.wrap .i64 t22)))) else none) else (some t9_1)
def F155_156 (k : Nat) (t0 : List Shard) (t1 : Int) : Option (Int × Bool) :=
  (F155_156_l1 t0 t1 k (0, (t0.length : Int))).bind fun t9 => bif (!(ltI t9 (t0.length : Int)) || inR t9 t0.length) then ((bif (ltI t9 (t0.length : Int)) then F156 k (rd t0 t9) t1 else some default).bind fun t46 => some (t9, ((ltI t9 (t0.length : Int)) && (eqI t46 0)))) else none
/- stratigraph/engine.place -/
def F123 (k : Nat) (t0 : Cell) (t1 : Int) : Option (Int × Bool) :=
  (F155_156 k t0.mShards t1).bind fun (t9a, t9b) => some (t9a, t9b)
/- stratigraph/engine.get -/
def F60 (k : Nat) (t0 : Cell) (t1 : Int) : Option Shard :=
  (F123 k t0 t1).bind fun (t10a, t10b) => bif t10b then (bif inR t10a t0.mShards.length then (some (rd t0.mShards t10a)) else none) else (some (⟨0, 0, (⟨(⟨#[]⟩ : ByteArray), (⟨#[]⟩ : ByteArray)⟩ : Span), 0, ([] : List Entry), (⟨0, 0, 0⟩ : Stamp), (⟨0, 0, 0⟩ : Stamp), ([] : List Done), 0, 0, 0, 0⟩ : Shard))
/- stratigraph/engine.writes -/
def F62 (k : Nat) (t0 : Request) : Option Bool :=
  some (((eqI t0.mKind 1) || (eqI t0.mKind 2)) || (eqI t0.mKind 3))
/- stratigraph/dedup.find$1 -/
def F176 (k : Nat) (t0 : Done) (t1 : Int) : Option Bool :=
  some (leI t1 t0.mClient)
/- slices.IndexFunc[[]stratigraph/api.Done,stratigraph/api.Done] -/
def F175_176_l1 (t0 : List Done) (t1u0 : Int) : Nat → Int → Option (LR Int Unit)
  | 0, _ => none
  | k + 1, t8 =>
    bif (ltI t8 (t0.length : Int)) then (bif inR t8 t0.length then ((F176 k (rd t0 t8) t1u0).bind fun t16 => bif t16 then (some (.ret t8)) else (F175_176_l1 t0 t1u0 k (IntKind.wrap .i64 (t8 + 1)))) else none) else (some (.out ()))
def F175_176 (k : Nat) (t0 : List Done) (t1u0 : Int) : Option Int :=
  (F175_176_l1 t0 t1u0 k 0).bind fun t => t.go fun _ => some (-1)
/- stratigraph/dedup.find -/
def F157 (k : Nat) (t0 : List Done) (t1 : Int) : Option (Int × Bool) :=
  (F175_176 k t0 t1).bind fun t9 => bif (ltI t9 0) then (some ((t0.length : Int), false)) else (bif inR t9 t0.length then (some (t9, (eqI (rd t0 t9).mClient t1))) else none)
/- stratigraph/dedup.Told -/
def F126 (k : Nat) (t0 : List Done) (t1 : Int) : Option (Done × Bool) :=
  (F82 k t0).bind fun t9 => bif (!t9) then (some ((⟨0, 0, (⟨0, (⟨0, 0, 0⟩ : Stamp), false, (⟨#[]⟩ : ByteArray), ([] : List Item), (⟨#[]⟩ : ByteArray), false⟩ : Answer)⟩ : Done), false)) else ((F157 k t0 t1).bind fun (t15a, t15b) => bif (!t15b) then (some ((⟨0, 0, (⟨0, (⟨0, 0, 0⟩ : Stamp), false, (⟨#[]⟩ : ByteArray), ([] : List Item), (⟨#[]⟩ : ByteArray), false⟩ : Answer)⟩ : Done), false)) else (bif inR t15a t0.length then (some ((rd t0 t15a), true)) else none))
/- stratigraph/dedup.Judge -/
def F125 (k : Nat) (t0 : List Done) (t1 : Int) (t2 : Int) : Option Int :=
  (F82 k t0).bind fun t10 => (bif (!(!t10)) then F137 k t1 else some default).bind fun t14 => (bif (!((!t10) || (!t14))) then F137 k t2 else some default).bind fun t19 => bif (((!t10) || (!t14)) || (!t19)) then (some 0) else ((F126 k t0 t1).bind fun (t25a, t25b) => bif ((!t25b) || (ltI t25a.mReq t2)) then (some 1) else (bif (eqI t2 t25a.mReq) then (some 2) else (some 3)))
/- stratigraph/index.find$1 -/
def F172 (k : Nat) (t0 : Entry) (t1 : ByteArray) : Option Int :=
  (F124 k t0.mKey t1).bind fun t8 => some t8
/- slices.BinarySearchFunc[[]stratigraph/api.Entry,stratigraph/api.Entry,string] -/
def F171_172_l1 (t0 : List Entry) (t1 : ByteArray) : Nat → (Int × Int) → Option Int
  | 0, _ => none
  | k + 1, (t9_1, t10) =>
    bif (ltI t9_1 t10) then (bnd ((shrI .u64 (IntKind.wrap .u64 (IntKind.wrap .i64 (t9_1 + t10))) 1)) fun t22 => bif inR (IntKind.wrap .i64 t22) t0.length then ((F172 k (rd t0 (IntKind.wrap .i64 t22)) t1).bind fun t30 => bif (ltI t30 0) then (F171_172_l1 t0 t1 k ((IntKind.wrap .i64 ((IntKind.wrap .i64 t22) + 1)), t10)) else (F171_172_l1 t0 t1 k (t9_1, (IntKind.wrap .i64 t22)))) else none) else (some t9_1)
def F171_172 (k : Nat) (t0 : List Entry) (t1 : ByteArray) : Option (Int × Bool) :=
  (F171_172_l1 t0 t1 k (0, (t0.length : Int))).bind fun t9 => bif (!(ltI t9 (t0.length : Int)) || inR t9 t0.length) then ((bif (ltI t9 (t0.length : Int)) then F172 k (rd t0 t9) t1 else some default).bind fun t46 => some (t9, ((ltI t9 (t0.length : Int)) && (eqI t46 0)))) else none
/- stratigraph/index.find -/
def F148 (k : Nat) (t0 : List Entry) (t1 : ByteArray) : Option (Int × Bool) :=
  (F171_172 k t0 t1).bind fun (t8a, t8b) => some (t8a, t8b)
/- stratigraph/chain.upto$1 -/
def F183 (k : Nat) (t0 : Version) (t1 : Stamp) : Option Int :=
  (F42 k t0.mAt t1).bind fun t8 => some t8
/- slices.BinarySearchFunc[[]stratigraph/api.Version,stratigraph/api.Version,stratigraph/api.Stamp] -/
def F182_183_l1 (t0 : List Version) (t1 : Stamp) : Nat → (Int × Int) → Option Int
  | 0, _ => none
  | k + 1, (t9_1, t10) =>
    bif (ltI t9_1 t10) then (bnd ((shrI .u64 (IntKind.wrap .u64 (IntKind.wrap .i64 (t9_1 + t10))) 1)) fun t22 => bif inR (IntKind.wrap .i64 t22) t0.length then ((F183 k (rd t0 (IntKind.wrap .i64 t22)) t1).bind fun t30 => bif (ltI t30 0) then (F182_183_l1 t0 t1 k ((IntKind.wrap .i64 ((IntKind.wrap .i64 t22) + 1)), t10)) else (F182_183_l1 t0 t1 k (t9_1, (IntKind.wrap .i64 t22)))) else none) else (some t9_1)
def F182_183 (k : Nat) (t0 : List Version) (t1 : Stamp) : Option (Int × Bool) :=
  (F182_183_l1 t0 t1 k (0, (t0.length : Int))).bind fun t9 => bif (!(ltI t9 (t0.length : Int)) || inR t9 t0.length) then ((bif (ltI t9 (t0.length : Int)) then F183 k (rd t0 t9) t1 else some default).bind fun t46 => some (t9, ((ltI t9 (t0.length : Int)) && (eqI t46 0)))) else none
/- stratigraph/chain.upto -/
def F169 (k : Nat) (t0 : List Version) (t1 : Stamp) : Option Int :=
  (F182_183 k t0 t1).bind fun (t10a, t10b) => bif t10b then (some (IntKind.wrap .i64 (t10a + 1))) else (some t10a)
/- stratigraph/chain.At -/
def F150 (k : Nat) (t0 : List Version) (t1 : Stamp) : Option (Version × Bool) :=
  (F136 k t0).bind fun t8 => bif (!t8) then (some ((⟨(⟨0, 0, 0⟩ : Stamp), false, (⟨#[]⟩ : ByteArray)⟩ : Version), false)) else ((F169 k t0 t1).bind fun t13 => bif (eqI t13 0) then (some ((⟨(⟨0, 0, 0⟩ : Stamp), false, (⟨#[]⟩ : ByteArray)⟩ : Version), false)) else (bif inR (IntKind.wrap .i64 (t13 - 1)) t0.length then (some ((rd t0 (IntKind.wrap .i64 (t13 - 1))), true)) else none))
/- stratigraph/index.Read -/
def F118 (k : Nat) (t0 : List Entry) (t1 : ByteArray) (t2 : Stamp) : Option (Version × Bool) :=
  (F81 k t0).bind fun t11 => bif (!t11) then (some ((⟨(⟨0, 0, 0⟩ : Stamp), false, (⟨#[]⟩ : ByteArray)⟩ : Version), false)) else ((F148 k t0 t1).bind fun (t17a, t17b) => bif (!(!(!t17b)) || inR t17a t0.length) then (bif ((!t17b) || (!strEq (rd t0 t17a).mKey t1)) then (some ((⟨(⟨0, 0, 0⟩ : Stamp), false, (⟨#[]⟩ : ByteArray)⟩ : Version), false)) else (bif inR t17a t0.length then ((F150 k (rd t0 t17a).mChain t2).bind fun (t38a, t38b) => some (t38a, t38b)) else none)) else none)
/- stratigraph/engine.latest -/
def F64 (k : Nat) (t0 : Cell) (t1 : Shard) (t2 : ByteArray) : Option Answer :=
  (F118 k t1.mEntries t2 t0.mTop).bind fun (t15a, t15b) => some (⟨0, t15a.mAt, (t15b && (!t15a.mGone)), t15a.mValue, ([] : List Item), (⟨#[]⟩ : ByteArray), false⟩ : Answer)
/- slices.Clone[[]stratigraph/api.Version,stratigraph/api.Version] -/
def F170 (k : Nat) (t0 : List Version) : Option (List Version) :=
  bif appOK 48 ([] : List Version).length t0.length then (some (([] : List Version) ++ t0)) else none
/- slices.Clone[[]stratigraph/api.Version,stratigraph/api.Version] -/
def F170o (k : Nat) (t0 : List Version) : Option (List Version) :=
  bif appOK 48 ([] : List Version).length t0.length then (some (([] : List Version) ++ t0)) else none
/- stratigraph/chain.Add -/
def F158 (k : Nat) (t0 : List Version) (t1 : Version) : Option ((List Version) × Int) :=
  (F136 k t0).bind fun t8 => (bif (!(!t8)) then F166 k t1 else some default).bind fun t12 => bif ((!t8) || (!t12)) then (some (([] : List Version), 1)) else (bif (!(ltI 0 (t0.length : Int)) || inR (IntKind.wrap .i64 ((t0.length : Int) - 1)) t0.length) then ((bif (ltI 0 (t0.length : Int)) then F42 k (rd t0 (IntKind.wrap .i64 ((t0.length : Int) - 1))).mAt t1.mAt else some default).bind fun t29 => bif ((ltI 0 (t0.length : Int)) && (leI 0 t29)) then (some (([] : List Version), 9)) else (bif (eqI (t0.length : Int) 64) then (some (([] : List Version), 6)) else ((F170o k t0).bind fun t37 => bif appOK 48 t37.length ([t1]).length then (some ((t37 ++ [t1]), 0)) else none))) else none)
/- slices.Clone[[]stratigraph/api.Entry,stratigraph/api.Entry] -/
def F173 (k : Nat) (t0 : List Entry) : Option (List Entry) :=
  bif appOK 40 ([] : List Entry).length t0.length then (some (([] : List Entry) ++ t0)) else none
/- slices.Clone[[]stratigraph/api.Entry,stratigraph/api.Entry] -/
def F173o (k : Nat) (t0 : List Entry) : Option (List Entry) :=
  bif appOK 40 ([] : List Entry).length t0.length then (some (([] : List Entry) ++ t0)) else none
/- stratigraph/index.clone -/
def F149_l1 (t6 : List Entry) : Nat → ((List Entry) × Int) → Option (List Entry)
  | 0, _ => none
  | k + 1, (t3_1, t9) =>
    bif (ltI t9 (t6.length : Int)) then (bif inR t9 t3_1.length then ((F170 k (rd t3_1 t9).mChain).bind fun t19 => bif inR t9 t3_1.length then (F149_l1 t6 k ((t3_1.set t9.toNat ({(rd t3_1 t9) with mChain := t19})), (IntKind.wrap .i64 (t9 + 1)))) else none) else none) else (some t3_1)
def F149 (k : Nat) (t0 : List Entry) : Option (List Entry) :=
  (F173o k t0).bind fun t6 => (F149_l1 t6 k (t6, 0)).bind fun t3 => some t3
/- stratigraph/index.clone -/
def F149o_l1 (t6 : List Entry) : Nat → ((List Entry) × Int) → Option (List Entry)
  | 0, _ => none
  | k + 1, (t3_1, t9) =>
    bif (ltI t9 (t6.length : Int)) then (bif inR t9 t3_1.length then ((F170 k (rd t3_1 t9).mChain).bind fun t19 => bif inR t9 t3_1.length then (F149o_l1 t6 k ((t3_1.set t9.toNat ({(rd t3_1 t9) with mChain := t19})), (IntKind.wrap .i64 (t9 + 1)))) else none) else none) else (some t3_1)
def F149o (k : Nat) (t0 : List Entry) : Option (List Entry) :=
  (F173o k t0).bind fun t6 => (F149o_l1 t6 k (t6, 0)).bind fun t3 => some t3
/- stratigraph/index.Put -/
def F127 (k : Nat) (t0 : List Entry) (t1 : ByteArray) (t2 : Version) : Option ((List Entry) × Int) :=
  (F81 k t0).bind fun t15 => (bif (!(!t15)) then F122 k t1 else some default).bind fun t19 => bif ((!t15) || (!t19)) then (some (([] : List Entry), 1)) else ((F148 k t0 t1).bind fun (t25a, t25b) => (bif t25b then (bif inR t25a t0.length then (some (rd t0 t25a).mChain) else none) else (some [])).bind fun t10 => (F158 k t10 t2).bind fun (t37a, t37b) => bif (!eqI t37b 0) then (some (([] : List Entry), t37b)) else (bif ((!t25b) && (eqI (t0.length : Int) 64)) then (some (([] : List Entry), 6)) else ((F149o k t0).bind fun t53 => bif (!t25b) then (bif insOK 40 t25a t53.length then (bif inR t25a (List.take t25a.toNat t53 ++ [(⟨t1, ([] : List Version)⟩ : Entry)] ++ List.drop t25a.toNat t53).length then (some (((List.take t25a.toNat t53 ++ [(⟨t1, ([] : List Version)⟩ : Entry)] ++ List.drop t25a.toNat t53).set t25a.toNat ({(rd (List.take t25a.toNat t53 ++ [(⟨t1, ([] : List Version)⟩ : Entry)] ++ List.drop t25a.toNat t53) t25a) with mChain := t37a})), 0)) else none) else none) else (bif inR t25a t53.length then (some ((t53.set t25a.toNat ({(rd t53 t25a) with mChain := t37a})), 0)) else none))))
/- slices.Clone[[]stratigraph/api.Done,stratigraph/api.Done] -/
def F160 (k : Nat) (t0 : List Done) : Option (List Done) :=
  bif appOK 120 ([] : List Done).length t0.length then (some (([] : List Done) ++ t0)) else none
/- slices.Clone[[]stratigraph/api.Done,stratigraph/api.Done] -/
def F160o (k : Nat) (t0 : List Done) : Option (List Done) :=
  bif appOK 120 ([] : List Done).length t0.length then (some (([] : List Done) ++ t0)) else none
/- stratigraph/dedup.Put -/
def F128 (k : Nat) (t0 : List Done) (t1 : Done) : Option ((List Done) × Int) :=
  (F82 k t0).bind fun t10 => (bif (!(!t10)) then F82 k ([t1]) else some default).bind fun t15 => bif ((!t10) || (!t15)) then (some (([] : List Done), 1)) else ((F157 k t0 t1.mClient).bind fun (t22a, t22b) => bif (!t22b || inR t22a t0.length) then (bif (t22b && (leI t1.mReq (rd t0 t22a).mReq)) then (some (([] : List Done), 9)) else (bif ((!t22b) && (eqI (t0.length : Int) 8)) then (some (([] : List Done), 6)) else ((F160o k t0).bind fun t46 => bif t22b then (bif inR t22a t46.length then (some ((t46.set t22a.toNat t1), 0)) else none) else (bif insOK 120 t22a t46.length then (some ((List.take t22a.toNat t46 ++ [t1] ++ List.drop t22a.toNat t46), 0)) else none)))) else none)
/- slices.Clone[[]stratigraph/api.Shard,stratigraph/api.Shard] -/
def F98 (k : Nat) (t0 : List Shard) : Option (List Shard) :=
  bif appOK 184 ([] : List Shard).length t0.length then (some (([] : List Shard) ++ t0)) else none
/- slices.Clone[[]stratigraph/api.Shard,stratigraph/api.Shard] -/
def F98o (k : Nat) (t0 : List Shard) : Option (List Shard) :=
  bif appOK 184 ([] : List Shard).length t0.length then (some (([] : List Shard) ++ t0)) else none
/- stratigraph/engine.with -/
def F95 (k : Nat) (t0 : Cell) (t1 : Shard) : Option Cell :=
  (F123 k t0 t1.mID).bind fun (t11a, t11b) => (F98o k t0.mShards).bind fun t16 => bif t11b then (bif inR t11a t16.length then (some ({t0 with mShards := (t16.set t11a.toNat t1)})) else none) else (bif insOK 184 t11a t16.length then (some ({t0 with mShards := (List.take t11a.toNat t16 ++ [t1] ++ List.drop t11a.toNat t16)})) else none)
/- stratigraph/engine.write -/
def F63 (k : Nat) (t0 : Cell) (t1 : Shard) (t2 : Request) (t3 : Stamp) : Option (Cell × Answer) :=
  (F125 k t1.mDone t2.mClient t2.mReq).bind fun t21 => bif (eqI t21 2) then ((F126 k t1.mDone t2.mClient).bind fun (t29a, t29b) => some (t0, t29a.mAnswer)) else (bif (eqI t21 3) then ((F59 k 10).bind fun t38 => some (t0, t38)) else ((F42 k t3 t0.mTop).bind fun t42 => bif (leI t42 0) then ((F59 k 1).bind fun t45 => some (t0, t45)) else ((F64 k t0 t1 t2.mKey).bind fun t50 => (bif ((eqI t2.mKind 3) && ((!(t50.mFound == t2.mHad)) || (t50.mFound && (!strEq t50.mValue t2.mOld)))) then (some (0, t1.mEntries, 15, t50.mValue)) else (bif (!eqI t2.mKind 2) then ((F127 k t1.mEntries t2.mKey (⟨t3, false, t2.mValue⟩ : Version)).bind fun (t94a, t94b) => some (t94b, t94a, 0, (⟨#[]⟩ : ByteArray))) else (bif t50.mFound then ((F127 k t1.mEntries t2.mKey (⟨t3, true, (⟨#[]⟩ : ByteArray)⟩ : Version)).bind fun (t108a, t108b) => some (t108b, t108a, 0, (⟨#[]⟩ : ByteArray))) else (some (0, t1.mEntries, 0, (⟨#[]⟩ : ByteArray)))))).bind fun (t14, t5c5, t13c0, t13c5) => bif (!eqI t14 0) then ((F59 k t14).bind fun t116 => some (t0, t116)) else ((F128 k t1.mDone (⟨t2.mClient, t2.mReq, (⟨t13c0, t3, t50.mFound, t13c5, ([] : List Item), (⟨#[]⟩ : ByteArray), false⟩ : Answer)⟩ : Done)).bind fun (t126a, t126b) => bif (!eqI t126b 0) then ((F59 k t126b).bind fun t134 => some (t0, t134)) else ((F95 k t0 ({t1 with mEntries := t5c5, mDone := t126a})).bind fun t137 => some ({t137 with mTop := t3}, (⟨t13c0, t3, t50.mFound, t13c5, ([] : List Item), (⟨#[]⟩ : ByteArray), false⟩ : Answer)))))))
/- stratigraph/stamp.Later -/
def F37 (k : Nat) (t0 : Stamp) (t1 : Stamp) : Option Stamp :=
  (F42 k t0 t1).bind fun t7 => bif (ltI t7 0) then (some t1) else (some t0)
/- stratigraph/chain.Value -/
def F162 (k : Nat) (t0 : List Version) (t1 : Stamp) : Option (ByteArray × Bool) :=
  (F150 k t0 t1).bind fun (t11a, t11b) => some (t11a.mValue, (t11b && (!t11a.mGone)))
/- stratigraph/index.Page -/
def F129_l1 (t0 : List Entry) (t2 : ByteArray) (t3 : Stamp) (t4 : Int) (t26a : Int) : Nat → ((List Item) × Int) → Option (LR ((List Item) × ByteArray × Bool) (List Item))
  | 0, _ => none
  | k + 1, (t13_1, t33) =>
    bif (ltI t33 ((List.drop t26a.toNat t0).length : Int)) then (bif inR t33 (List.drop t26a.toNat t0).length then ((bif (!strEq t2 (⟨#[]⟩ : ByteArray)) then F124 k (rd (List.drop t26a.toNat t0) t33).mKey t2 else some default).bind fun t43 => bif ((!strEq t2 (⟨#[]⟩ : ByteArray)) && (leI 0 t43)) then (some (.out t13_1)) else ((F162 k (rd (List.drop t26a.toNat t0) t33).mChain t3).bind fun (t50a, t50b) => bif (!t50b) then (F129_l1 t0 t2 t3 t4 t26a k (t13_1, (IntKind.wrap .i64 (t33 + 1)))) else (bif (leI t4 (t13_1.length : Int)) then (some (.ret (t13_1, (rd (List.drop t26a.toNat t0) t33).mKey, true))) else (bif appOK 32 t13_1.length ([(⟨(rd (List.drop t26a.toNat t0) t33).mKey, t50a⟩ : Item)]).length then (F129_l1 t0 t2 t3 t4 t26a k ((t13_1 ++ [(⟨(rd (List.drop t26a.toNat t0) t33).mKey, t50a⟩ : Item)]), (IntKind.wrap .i64 (t33 + 1)))) else none)))) else none) else (some (.out t13_1))
def F129 (k : Nat) (t0 : List Entry) (t1 : ByteArray) (t2 : ByteArray) (t3 : Stamp) (t4 : Int) : Option ((List Item) × ByteArray × Bool) :=
  (F81 k t0).bind fun t21 => bif (!t21) then (some (([] : List Item), (⟨#[]⟩ : ByteArray), false)) else ((F148 k t0 t1).bind fun (t26a, t26b) => (bif cutOK t26a (t0.length : Int) t0.length then (F129_l1 t0 t2 t3 t4 t26a k ([], 0)) else none).bind fun t => t.go fun t13 => some (t13, (⟨#[]⟩ : ByteArray), false))
/- stratigraph/engine.past -/
def F65 (k : Nat) (t0 : Cell) (t1 : Shard) (t2 : Request) (t3 : Int) : Option (Cell × Answer) :=
  (F42 k t2.mAt t1.mMark).bind fun t20 => bif (ltI t20 0) then ((F59 k 13).bind fun t23 => some (t0, t23)) else (bif (ltI t3 (IntKind.wrap .i64 (t2.mAt.mWall - 1000))) then ((F59 k 12).bind fun t32 => some (t0, t32)) else ((F37 k t0.mTop t2.mAt).bind fun t37 => bif (eqI t2.mKind 5) then ((F118 k t1.mEntries t2.mKey t2.mAt).bind fun (t52a, t52b) => some ({t0 with mTop := t37}, (⟨0, t2.mAt, (t52b && (!t52a.mGone)), t52a.mValue, ([] : List Item), (⟨#[]⟩ : ByteArray), false⟩ : Answer))) else ((bif ((!strEq t1.mSpan.mHi (⟨#[]⟩ : ByteArray)) && (!(strEq t2.mHi (⟨#[]⟩ : ByteArray)))) then F124 k t1.mSpan.mHi t2.mHi else some default).bind fun t81 => (bif ((!strEq t1.mSpan.mHi (⟨#[]⟩ : ByteArray)) && ((strEq t2.mHi (⟨#[]⟩ : ByteArray)) || (ltI t81 0))) then (some t1.mSpan.mHi) else (some t2.mHi)).bind fun t13 => (F129 k t1.mEntries t2.mKey t13 t2.mAt t2.mLimit).bind fun (t99a, t99b, t99c) => bif (((!strEq t1.mSpan.mHi (⟨#[]⟩ : ByteArray)) && ((strEq t2.mHi (⟨#[]⟩ : ByteArray)) || (ltI t81 0))) && (!t99c)) then (some ({t0 with mTop := t37}, (⟨0, t2.mAt, false, (⟨#[]⟩ : ByteArray), t99a, t13, true⟩ : Answer))) else (some ({t0 with mTop := t37}, (⟨0, t2.mAt, false, (⟨#[]⟩ : ByteArray), t99a, t99b, t99c⟩ : Answer))))))
/- stratigraph/engine.Do -/
def F16 (k : Nat) (t0 : Cell) (t1 : Int) (t2 : Int) (t3 : Request) (t4 : Stamp) (t5 : Int) : Option (Cell × Answer) :=
  (F25 k t0).bind fun t17 => (bif (!(!t17)) then F57 k 1 ([t1, t2]) else some default).bind fun t23 => (bif (!((!t17) || (!t23))) then F57 k 0 ([t5]) else some default).bind fun t29 => (bif (!(((!t17) || (!t23)) || (!t29))) then F36 k t4 else some default).bind fun t34 => (bif (!((((!t17) || (!t23)) || (!t29)) || (!t34))) then F58 k t3 else some default).bind fun t39 => bif (((((!t17) || (!t23)) || (!t29)) || (!t34)) || (!t39)) then ((F59 k 1).bind fun t43 => some (t0, t43)) else ((F60 k t0 t1).bind fun t46 => (bif (!((strEq t3.mKey (⟨#[]⟩ : ByteArray)) && (strEq t46.mSpan.mLo (⟨#[]⟩ : ByteArray)))) then F61 k t46.mSpan t3.mKey else some default).bind fun t61 => bif (((eqI t46.mID 0) || (!eqI t46.mEpoch t2)) || (!(((strEq t3.mKey (⟨#[]⟩ : ByteArray)) && (strEq t46.mSpan.mLo (⟨#[]⟩ : ByteArray))) || t61))) then ((F59 k 10).bind fun t78 => some (t0, t78)) else ((bif (!(!eqI t46.mPhase 1)) then F62 k t3 else some default).bind fun t85 => bif ((!eqI t46.mPhase 1) || (t85 && (!eqI t46.mHold 0))) then ((F59 k 11).bind fun t93 => some (t0, t93)) else ((F62 k t3).bind fun t96 => bif t96 then ((F63 k t0 t46 t3 t4).bind fun (t101a, t101b) => some (t101a, t101b)) else (bif (eqI t3.mKind 4) then ((F64 k t0 t46 t3.mKey).bind fun t113 => some (t0, t113)) else ((F65 k t0 t46 t3 t5).bind fun (t118a, t118b) => some (t118a, t118b))))))
/- stratigraph/stratigraphlaw11.awake -/
def F15 (k : Nat) : Option Bool :=
  (F56 k 5).bind fun t12 => (F16 k (⟨([(⟨1, 1, (⟨⟨#[]⟩, ⟨#[]⟩⟩ : Span), 1, ([] : List Entry), (⟨0, 0, 0⟩ : Stamp), (⟨0, 0, 0⟩ : Stamp), ([] : List Done), 0, 0, 0, 0⟩ : Shard)]), (⟨0, 0, 0⟩ : Stamp), 0⟩ : Cell) 1 1 (⟨1, 1, 1, (⟨#[97]⟩ : ByteArray), (⟨#[120]⟩ : ByteArray), false, (⟨#[]⟩ : ByteArray), (⟨0, 0, 0⟩ : Stamp), (⟨#[]⟩ : ByteArray), 0⟩ : Request) t12 0).bind fun (t13a, t13b) => (F56 k 6).bind fun t19 => (F16 k t13a 1 1 (⟨1, 2, 4, (⟨#[97]⟩ : ByteArray), (⟨#[]⟩ : ByteArray), false, (⟨#[]⟩ : ByteArray), (⟨0, 0, 0⟩ : Stamp), (⟨#[]⟩ : ByteArray), 0⟩ : Request) t19 0).bind fun (t20a, t20b) => (F25 k t13a).bind fun t24 => (bif t24 then F56 k 5 else some default).bind fun t28 => (bif ((((t24 && (qStamp t13b.mAt t28)) && (eqI t13b.mErr 0)) && t20b.mFound) && (strEq t20b.mValue (⟨#[120]⟩ : ByteArray))) then F56 k 5 else some default).bind fun t48 => some (((((t24 && (qStamp t13b.mAt t28)) && (eqI t13b.mErr 0)) && t20b.mFound) && (strEq t20b.mValue (⟨#[120]⟩ : ByteArray))) && (qStamp t20b.mAt t48))
/- stratigraph/engine.Find -/
def F23 (k : Nat) (t0 : Cell) (t1 : Int) : Option (Shard × Bool) :=
  (F25 k t0).bind fun t8 => (bif (!(!t8)) then F57 k 1 ([t1]) else some default).bind fun t13 => bif ((!t8) || (!t13)) then (some ((⟨0, 0, (⟨(⟨#[]⟩ : ByteArray), (⟨#[]⟩ : ByteArray)⟩ : Span), 0, ([] : List Entry), (⟨0, 0, 0⟩ : Stamp), (⟨0, 0, 0⟩ : Stamp), ([] : List Done), 0, 0, 0, 0⟩ : Shard), false)) else ((F60 k t0 t1).bind fun t19 => some (t19, (!eqI t19.mID 0)))
/- stratigraph/engine.Hold -/
def F30 (k : Nat) (t0 : Cell) (t1 : Int) (t2 : Int) (t3 : Int) : Option (Cell × Bool) :=
  (F23 k t0 t1).bind fun (t15a, t15b) => (bif (!(!t15b)) then F57 k 1 ([t2, t3]) else some default).bind fun t24 => bif ((((((!t15b) || (!t24)) || (!eqI t15a.mEpoch t2)) || (!eqI t15a.mPhase 1)) || (leI t3 t15a.mSeen)) || ((!eqI t15a.mHold 0) && (!eqI t15a.mHold t3))) then (some (t0, false)) else ((F95 k t0 ({t15a with mHold := t3})).bind fun t60 => some (t60, true))
/- stratigraph/stratigraphref11.Get -/
def F24_l1 (t0 : Cell) (t1 : Int) : Nat → Int → Option (LR Shard Unit)
  | 0, _ => none
  | k + 1, t5 =>
    bif (ltI t5 (t0.mShards.length : Int)) then (bif inR t5 t0.mShards.length then (bif (eqI (rd t0.mShards t5).mID t1) then (bif inR t5 t0.mShards.length then (some (.ret (rd t0.mShards t5))) else none) else (F24_l1 t0 t1 k (IntKind.wrap .i64 (t5 + 1)))) else none) else (some (.out ()))
def F24 (k : Nat) (t0 : Cell) (t1 : Int) : Option Shard :=
  (F24_l1 t0 t1 k 0).bind fun t => t.go fun _ => some (⟨0, 0, (⟨(⟨#[]⟩ : ByteArray), (⟨#[]⟩ : ByteArray)⟩ : Span), 0, ([] : List Entry), (⟨0, 0, 0⟩ : Stamp), (⟨0, 0, 0⟩ : Stamp), ([] : List Done), 0, 0, 0, 0⟩ : Shard)
/- stratigraph/stratigraphref05.Right -/
def F68 (k : Nat) (t0 : Stamp) : Option Bool :=
  some ((((((leI 0 t0.mWall) && (leI t0.mWall 1099511627776)) && (leI 0 t0.mTick)) && (leI t0.mTick 1048576)) && (leI 0 t0.mNode)) && (leI t0.mNode 255))
/- stratigraph/stratigraphref11.one -/
def F66 (k : Nat) (t0 : Int) : Option Bool :=
  some ((ltI 0 t0) && (leI t0 1099511627776))
/- stratigraph/stratigraphref11.nought -/
def F67 (k : Nat) (t0 : Int) : Option Bool :=
  (bif (!(eqI t0 0)) then F66 k t0 else some default).bind fun t7 => some ((eqI t0 0) || t7)
/- stratigraph/stratigraphref04.Letter -/
def F163_l1 (t0 : ByteArray) (t5 : Int) : Nat → (Int × Int) → Option (LR (Int × Int) Int)
  | 0, _ => none
  | k + 1, (t4_2, t7) =>
    bif (ltI t7 t5) then (bif inR t7 t0.size then (bif (!(!(ltI (bt t0 t7) 128)) || inR t7 t0.size) then (bif ((ltI (bt t0 t7) 128) || (ltI 191 (bt t0 t7))) then (some (.ret ((-1), 1))) else (bif inR t7 t0.size then (bnd ((IntKind.wrap .i64 ((IntKind.wrap .i64 (64 * t4_2)) + (IntKind.wrap .i64 (bt t0 t7))))) fun t67 => F163_l1 t0 t5 k ((IntKind.wrap .i64 (t67 - 128)), (IntKind.wrap .i64 (t7 + 1)))) else none)) else none) else none) else (some (.out t4_2))
def F163 (k : Nat) (t0 : ByteArray) : Option (Int × Int) :=
  bif inR 0 t0.size then (bif (ltI (IntKind.wrap .i64 (bt t0 0)) 128) then (some ((IntKind.wrap .i64 (bt t0 0)), 1)) else ((bif ((leI 194 (IntKind.wrap .i64 (bt t0 0))) && (ltI (IntKind.wrap .i64 (bt t0 0)) 224)) then (some ((IntKind.wrap .i64 ((IntKind.wrap .i64 (bt t0 0)) - 192)), 2, 128)) else (bif ((leI 224 (IntKind.wrap .i64 (bt t0 0))) && (ltI (IntKind.wrap .i64 (bt t0 0)) 240)) then (some ((IntKind.wrap .i64 ((IntKind.wrap .i64 (bt t0 0)) - 224)), 3, 2048)) else (bif ((leI 240 (IntKind.wrap .i64 (bt t0 0))) && (ltI (IntKind.wrap .i64 (bt t0 0)) 245)) then (some ((IntKind.wrap .i64 ((IntKind.wrap .i64 (bt t0 0)) - 240)), 4, 65536)) else (some ((IntKind.wrap .i64 (bt t0 0)), 0, 0))))).bind fun (t4, t5, t6) => bif ((eqI t5 0) || (ltI (t0.size : Int) t5)) then (some ((-1), 1)) else ((F163_l1 t0 t5 k (t4, 1)).bind fun t => t.go fun t4_1 => bif (((ltI t4_1 t6) || (ltI 1114111 t4_1)) || ((leI 55296 t4_1) && (ltI t4_1 57344))) then (some ((-1), 1)) else (some (t4_1, t5))))) else none
/- stratigraph/stratigraphref04.Plain -/
def F164 (k : Nat) (t0 : Int) : Option Bool :=
  some (((ltI 32 t0) && (!eqI t0 127)) && ((ltI t0 128) || (ltI 159 t0)))
/- stratigraph/stratigraphref04.Right -/
def F130_l1 : Nat → ByteArray → Option (LR Bool Unit)
  | 0, _ => none
  | k + 1, t0_1 =>
    bif (ltI 0 (t0_1.size : Int)) then ((F163 k t0_1).bind fun (t18a, t18b) => (F164 k t18a).bind fun t22 => bif (!t22) then (some (.ret false)) else (bif cutOK t18b (t0_1.size : Int) t0_1.size then (F130_l1 k (t0_1.extract t18b.toNat (t0_1.size : Int).toNat)) else none)) else (some (.out ()))
def F130 (k : Nat) (t0 : ByteArray) : Option Bool :=
  bif ((eqI (t0.size : Int) 0) || (ltI 16 (t0.size : Int))) then (some false) else ((F130_l1 k t0).bind fun t => t.go fun _ => some true)
/- stratigraph/stratigraphref04.Letters -/
def F151_l1 : Nat → (ByteArray × (List Int)) → Option (List Int)
  | 0, _ => none
  | k + 1, (t0_1, t3_1) =>
    bif (ltI 0 (t0_1.size : Int)) then ((F163 k t0_1).bind fun (t11a, t11b) => bif (ltI t11a 0) then (bif appOK 8 t3_1.length ([(65533 : Int)]).length then (bif cutOK t11b (t0_1.size : Int) t0_1.size then (F151_l1 k ((t0_1.extract t11b.toNat (t0_1.size : Int).toNat), (t3_1 ++ [(65533 : Int)]))) else none) else none) else (bif appOK 8 t3_1.length ([t11a]).length then (bif cutOK t11b (t0_1.size : Int) t0_1.size then (F151_l1 k ((t0_1.extract t11b.toNat (t0_1.size : Int).toNat), (t3_1 ++ [t11a]))) else none) else none)) else (some t3_1)
def F151 (k : Nat) (t0 : ByteArray) : Option (List Int) :=
  (F151_l1 k (t0, [])).bind fun t3 => some t3
/- stratigraph/stratigraphref04.Compare -/
def F119_l1 (t9 : List Int) (t11 : List Int) : Nat → Int → Option (LR Int Unit)
  | 0, _ => none
  | k + 1, t7 =>
    bif ((ltI t7 (t9.length : Int)) && (ltI t7 (t11.length : Int))) then (bif inR t7 t9.length then (bif inR t7 t11.length then (bif (ltI (rd t9 t7) (rd t11 t7)) then (some (.ret (-1))) else (bif inR t7 t9.length then (bif inR t7 t11.length then (bif (ltI (rd t11 t7) (rd t9 t7)) then (some (.ret 1)) else (F119_l1 t9 t11 k (IntKind.wrap .i64 (t7 + 1)))) else none) else none)) else none) else none) else (some (.out ()))
def F119 (k : Nat) (t0 : ByteArray) (t1 : ByteArray) : Option Int :=
  (F151 k t0).bind fun t9 => (F151 k t1).bind fun t11 => (F119_l1 t9 t11 k 0).bind fun t => t.go fun _ => bif (ltI (t9.length : Int) (t11.length : Int)) then (some (-1)) else (bif (ltI (t11.length : Int) (t9.length : Int)) then (some 1) else (some 0))
/- stratigraph/stratigraphref09.Right -/
def F85 (k : Nat) (t0 : Span) : Option Bool :=
  (bif (ltI 0 (t0.mLo.size : Int)) then F130 k t0.mLo else some default).bind fun t10 => bif ((ltI 0 (t0.mLo.size : Int)) && (!t10)) then (some false) else (bif (eqI (t0.mHi.size : Int) 0) then (some true) else ((F130 k t0.mHi).bind fun t19 => (bif t19 then F119 k t0.mLo t0.mHi else some default).bind fun t25 => some (t19 && (eqI t25 (-1)))))
/- stratigraph/stratigraphref07.One -/
def F134 (k : Nat) (t0 : Version) : Option Bool :=
  bif (t0.mGone && (ltI 0 (t0.mValue.size : Int))) then (some false) else ((F68 k t0.mAt).bind fun t13 => some (t13 && (ltI (t0.mValue.size : Int) 17)))
/- stratigraph/stratigraphref05.Before -/
def F76 (k : Nat) (t0 : Stamp) (t1 : Stamp) : Option Bool :=
  bif (!eqI t0.mWall t1.mWall) then (some (ltI t0.mWall t1.mWall)) else (bif (!eqI t0.mTick t1.mTick) then (some (ltI t0.mTick t1.mTick)) else (some (ltI t0.mNode t1.mNode)))
/- stratigraph/stratigraphref07.Right -/
def F131_l1 (t0 : List Version) : Nat → Int → Option (LR Bool Unit)
  | 0, _ => none
  | k + 1, t3 =>
    bif (ltI t3 (t0.length : Int)) then (bif inR t3 t0.length then ((F134 k (rd t0 t3)).bind fun t17 => bif (!t17) then (some (.ret false)) else (bif (!(ltI 0 t3) || inR (IntKind.wrap .i64 (t3 - 1)) t0.length) then (bif (!(ltI 0 t3) || inR t3 t0.length) then ((bif (ltI 0 t3) then F76 k (rd t0 (IntKind.wrap .i64 (t3 - 1))).mAt (rd t0 t3).mAt else some default).bind fun t33 => bif ((ltI 0 t3) && (!t33)) then (some (.ret false)) else (F131_l1 t0 k (IntKind.wrap .i64 (t3 + 1)))) else none) else none)) else none) else (some (.out ()))
def F131 (k : Nat) (t0 : List Version) : Option Bool :=
  bif (ltI 64 (t0.length : Int)) then (some false) else ((F131_l1 t0 k 0).bind fun t => t.go fun _ => some true)
/- stratigraph/stratigraphref08.Right -/
def F86_l1 (t0 : List Entry) : Nat → Int → Option (LR Bool Unit)
  | 0, _ => none
  | k + 1, t3 =>
    bif (ltI t3 (t0.length : Int)) then (bif inR t3 t0.length then ((F130 k (rd t0 t3).mKey).bind fun t18 => bif (!(!(!t18)) || inR t3 t0.length) then (bif (!(!((!t18) || (eqI ((rd t0 t3).mChain.length : Int) 0))) || inR t3 t0.length) then ((bif (!((!t18) || (eqI ((rd t0 t3).mChain.length : Int) 0))) then F131 k (rd t0 t3).mChain else some default).bind fun t35 => bif (((!t18) || (eqI ((rd t0 t3).mChain.length : Int) 0)) || (!t35)) then (some (.ret false)) else (bif (!(ltI 0 t3) || inR (IntKind.wrap .i64 (t3 - 1)) t0.length) then (bif (!(ltI 0 t3) || inR t3 t0.length) then ((bif (ltI 0 t3) then F119 k (rd t0 (IntKind.wrap .i64 (t3 - 1))).mKey (rd t0 t3).mKey else some default).bind fun t52 => bif ((ltI 0 t3) && (!eqI t52 (-1))) then (some (.ret false)) else (F86_l1 t0 k (IntKind.wrap .i64 (t3 + 1)))) else none) else none)) else none) else none) else none) else (some (.out ()))
def F86 (k : Nat) (t0 : List Entry) : Option Bool :=
  bif (ltI 64 (t0.length : Int)) then (some false) else ((F86_l1 t0 k 0).bind fun t => t.go fun _ => some true)
/- stratigraph/stratigraphref10.number -/
def F140 (k : Nat) (t0 : Int) : Option Bool :=
  some ((ltI 0 t0) && (leI t0 1099511627776))
/- stratigraph/stratigraphref10.Plain -/
def F141 (k : Nat) (t0 : Answer) : Option Bool :=
  bif ((((((ltI t0.mErr 0) || (ltI 16 t0.mErr)) || (ltI 16 (t0.mValue.size : Int))) || (ltI 0 (t0.mItems.length : Int))) || (ltI 0 (t0.mNext.size : Int))) || t0.mMore) then (some false) else ((F68 k t0.mAt).bind fun t35 => some t35)
/- stratigraph/stratigraphref10.Right -/
def F87_l1 (t0 : List Done) : Nat → Int → Option (LR Bool Unit)
  | 0, _ => none
  | k + 1, t3 =>
    bif (ltI t3 (t0.length : Int)) then (bif inR t3 t0.length then ((F140 k (rd t0 t3).mClient).bind fun t18 => bif (!(!(!t18)) || inR t3 t0.length) then ((bif (!(!t18)) then F140 k (rd t0 t3).mReq else some default).bind fun t26 => bif (!(!((!t18) || (!t26))) || inR t3 t0.length) then ((bif (!((!t18) || (!t26))) then F141 k (rd t0 t3).mAnswer else some default).bind fun t35 => bif (((!t18) || (!t26)) || (!t35)) then (some (.ret false)) else (bif (!(ltI 0 t3) || inR (IntKind.wrap .i64 (t3 - 1)) t0.length) then (bif (!(ltI 0 t3) || inR t3 t0.length) then (bif ((ltI 0 t3) && (leI (rd t0 t3).mClient (rd t0 (IntKind.wrap .i64 (t3 - 1))).mClient)) then (some (.ret false)) else (F87_l1 t0 k (IntKind.wrap .i64 (t3 + 1)))) else none) else none)) else none) else none) else none) else (some (.out ()))
def F87 (k : Nat) (t0 : List Done) : Option Bool :=
  bif (ltI 8 (t0.length : Int)) then (some false) else ((F87_l1 t0 k 0).bind fun t => t.go fun _ => some true)
/- stratigraph/stratigraphref08.In -/
def F55 (k : Nat) (t0 : ByteArray) (t1 : ByteArray) (t2 : ByteArray) : Option Bool :=
  (F119 k t0 t1).bind fun t9 => (bif ((leI 0 t9) && (!(eqI (t2.size : Int) 0))) then F119 k t0 t2 else some default).bind fun t18 => some ((leI 0 t9) && ((eqI (t2.size : Int) 0) || (ltI t18 0)))
/- stratigraph/stratigraphref09.Has -/
def F88 (k : Nat) (t0 : Span) (t1 : ByteArray) : Option Bool :=
  (F85 k t0).bind fun t6 => (bif t6 then F130 k t1 else some default).bind fun t9 => (bif (t6 && t9) then F55 k t1 t0.mLo t0.mHi else some default).bind fun t17 => some ((t6 && t9) && t17)
/- stratigraph/stratigraphref11.RightShard -/
def F21_l1 (t0 : Shard) : Nat → Int → Option (LR Bool Unit)
  | 0, _ => none
  | k + 1, t3 =>
    bif (ltI t3 (t0.mEntries.length : Int)) then (bif inR t3 t0.mEntries.length then ((F88 k t0.mSpan (rd t0.mEntries t3).mKey).bind fun t96 => bif (!t96) then (some (.ret false)) else (F21_l1 t0 k (IntKind.wrap .i64 (t3 + 1)))) else none) else (some (.out ()))
def F21 (k : Nat) (t0 : Shard) : Option Bool :=
  (F66 k t0.mID).bind fun t6 => (bif (!(!t6)) then F66 k t0.mEpoch else some default).bind fun t11 => (bif (!((!t6) || (!t11))) then F67 k t0.mHold else some default).bind fun t17 => (bif (!(((!t6) || (!t11)) || (!t17))) then F67 k t0.mSeen else some default).bind fun t23 => (bif (!((((!t6) || (!t11)) || (!t17)) || (!t23))) then F67 k t0.mMove else some default).bind fun t29 => (bif (!(((((!t6) || (!t11)) || (!t17)) || (!t23)) || (!t29))) then F67 k t0.mClosed else some default).bind fun t35 => bif ((((((!t6) || (!t11)) || (!t17)) || (!t23)) || (!t29)) || (!t35)) then (some false) else ((bif (!(((!eqI t0.mPhase 1) && (!eqI t0.mPhase 2)) && (!eqI t0.mPhase 3))) then F85 k t0.mSpan else some default).bind fun t54 => (bif (!((((!eqI t0.mPhase 1) && (!eqI t0.mPhase 2)) && (!eqI t0.mPhase 3)) || (!t54))) then F86 k t0.mEntries else some default).bind fun t60 => (bif (!(((((!eqI t0.mPhase 1) && (!eqI t0.mPhase 2)) && (!eqI t0.mPhase 3)) || (!t54)) || (!t60))) then F68 k t0.mMark else some default).bind fun t66 => (bif (!((((((!eqI t0.mPhase 1) && (!eqI t0.mPhase 2)) && (!eqI t0.mPhase 3)) || (!t54)) || (!t60)) || (!t66))) then F68 k t0.mTop else some default).bind fun t72 => (bif (!(((((((!eqI t0.mPhase 1) && (!eqI t0.mPhase 2)) && (!eqI t0.mPhase 3)) || (!t54)) || (!t60)) || (!t66)) || (!t72))) then F87 k t0.mDone else some default).bind fun t78 => bif ((((((((!eqI t0.mPhase 1) && (!eqI t0.mPhase 2)) && (!eqI t0.mPhase 3)) || (!t54)) || (!t60)) || (!t66)) || (!t72)) || (!t78)) then (some false) else ((F21_l1 t0 k 0).bind fun t => t.go fun _ => some true))
/- stratigraph/stratigraphref11.Upto -/
def F89_l2 (t0 : Shard) (t1 : Stamp) (t5 : Int) : Nat → Int → Option (LR Bool Unit)
  | 0, _ => none
  | k + 1, t6 =>
    bif inR t5 t0.mEntries.length then (bif (ltI t6 ((rd t0.mEntries t5).mChain.length : Int)) then (bif inR t5 t0.mEntries.length then (bif inR t6 (rd t0.mEntries t5).mChain.length then ((F76 k t1 (rd (rd t0.mEntries t5).mChain t6).mAt).bind fun t36 => bif t36 then (some (.ret false)) else (F89_l2 t0 t1 t5 k (IntKind.wrap .i64 (t6 + 1)))) else none) else none) else (some (.out ()))) else none
def F89_l1 (t0 : Shard) (t1 : Stamp) : Nat → Int → Option (LR Bool Unit)
  | 0, _ => none
  | k + 1, t5 =>
    bif (ltI t5 (t0.mEntries.length : Int)) then ((F89_l2 t0 t1 t5 k 0).bind fun t => t.go' .ret fun _ => F89_l1 t0 t1 k (IntKind.wrap .i64 (t5 + 1))) else (some (.out ()))
def F89 (k : Nat) (t0 : Shard) (t1 : Stamp) : Option Bool :=
  (F89_l1 t0 t1 k 0).bind fun t => t.go fun _ => some true
/- stratigraph/stratigraphref11.Right -/
def F22_l1 (t0 : Cell) : Nat → Int → Option (LR Bool Unit)
  | 0, _ => none
  | k + 1, t3 =>
    bif (ltI t3 (t0.mShards.length : Int)) then (bif inR t3 t0.mShards.length then ((F21 k (rd t0.mShards t3)).bind fun t32 => bif (!(!(!t32)) || inR t3 t0.mShards.length) then ((bif (!(!t32)) then F89 k (rd t0.mShards t3) t0.mTop else some default).bind fun t42 => bif (!((!((!t32) || (!t42))) && (ltI 0 t3)) || inR (IntKind.wrap .i64 (t3 - 1)) t0.mShards.length) then (bif (!((!((!t32) || (!t42))) && (ltI 0 t3)) || inR t3 t0.mShards.length) then (bif (((!t32) || (!t42)) || ((ltI 0 t3) && (leI (rd t0.mShards t3).mID (rd t0.mShards (IntKind.wrap .i64 (t3 - 1))).mID))) then (some (.ret false)) else (F22_l1 t0 k (IntKind.wrap .i64 (t3 + 1)))) else none) else none) else none) else none) else (some (.out ()))
def F22 (k : Nat) (t0 : Cell) : Option Bool :=
  (bif (!(ltI 8 (t0.mShards.length : Int))) then F68 k t0.mTop else some default).bind fun t11 => (bif (!((ltI 8 (t0.mShards.length : Int)) || (!t11))) then F67 k t0.mDropped else some default).bind fun t17 => bif (((ltI 8 (t0.mShards.length : Int)) || (!t11)) || (!t17)) then (some false) else ((F22_l1 t0 k 0).bind fun t => t.go fun _ => some true)
/- stratigraph/stratigraphref11.Put -/
def F79_l1 (t0 : Cell) (t1 : Shard) : Nat → ((List Shard) × Bool × Int) → Option ((List Shard) × Bool)
  | 0, _ => none
  | k + 1, (t7_1, t8_1, t9) =>
    bif (ltI t9 (t0.mShards.length : Int)) then ((bif (!(!t8_1) || inR t9 t0.mShards.length) then (bif ((!t8_1) && (leI t1.mID (rd t0.mShards t9).mID)) then (bif appOK 184 t7_1.length ([t1]).length then (some ((t7_1 ++ [t1]), true)) else none) else (some (t7_1, t8_1))) else none).bind fun (t7_2, t8_2) => bif inR t9 t0.mShards.length then (bif (!eqI (rd t0.mShards t9).mID t1.mID) then (bif inR t9 t0.mShards.length then (bif appOK 184 t7_2.length ([(rd t0.mShards t9)]).length then (F79_l1 t0 t1 k ((t7_2 ++ [(rd t0.mShards t9)]), t8_2, (IntKind.wrap .i64 (t9 + 1)))) else none) else none) else (F79_l1 t0 t1 k (t7_2, t8_2, (IntKind.wrap .i64 (t9 + 1))))) else none) else (some (t7_1, t8_1))
def F79 (k : Nat) (t0 : Cell) (t1 : Shard) (t2 : Bool) : Option Cell :=
  (F79_l1 t0 t1 k ([], t2, 0)).bind fun (t7, t8) => bif (!t8) then (bif appOK 184 t7.length ([t1]).length then (some ({t0 with mShards := (t7 ++ [t1])})) else none) else (some ({t0 with mShards := t7}))
/- stratigraph/stratigraphref11.Hold -/
def F31 (k : Nat) (t0 : Cell) (t1 : Int) (t2 : Int) (t3 : Int) : Option (Cell × Bool) :=
  (F24 k t0 t1).bind fun t13 => (F22 k t0).bind fun t15 => (bif (!(!t15)) then F66 k t1 else some default).bind fun t19 => (bif (!((!t15) || (!t19))) then F66 k t2 else some default).bind fun t24 => (bif (!(((!t15) || (!t19)) || (!t24))) then F66 k t3 else some default).bind fun t29 => bif ((((((((!t15) || (!t19)) || (!t24)) || (!t29)) || (eqI t13.mID 0)) || (!eqI t13.mEpoch t2)) || (!eqI t13.mPhase 1)) || (leI t3 t13.mSeen)) then (some (t0, false)) else (bif ((!eqI t13.mHold 0) && (!eqI t13.mHold t3)) then (some (t0, false)) else ((F79 k t0 ({t13 with mHold := t3}) false).bind fun t69 => some (t69, true)))
/- stratigraph/engine.Free -/
def F32 (k : Nat) (t0 : Cell) (t1 : Int) (t2 : Int) (t3 : Stamp) : Option (Cell × Bool) :=
  (F23 k t0 t1).bind fun (t15a, t15b) => (bif (!(!t15b)) then F57 k 1 ([t2]) else some default).bind fun t23 => (bif (!((!t15b) || (!t23))) then F36 k t3 else some default).bind fun t28 => bif (((!t15b) || (!t23)) || (!t28)) then (some (t0, false)) else (bif (leI t2 t15a.mSeen) then (some (t0, true)) else ((bif (eqI t15a.mHold t2) then (some 0) else (some t15a.mHold)).bind fun t10c13 => (F95 k t0 ({t15a with mHold := t10c13, mSeen := t2})).bind fun t46 => (F37 k t46.mTop t3).bind fun t50 => some ({t46 with mTop := t50}, true)))
/- stratigraph/stratigraphref05.Later -/
def F97 (k : Nat) (t0 : Stamp) (t1 : Stamp) : Option Stamp :=
  (F76 k t0 t1).bind fun t7 => bif t7 then (some t1) else (some t0)
/- stratigraph/stratigraphref11.Free -/
def F33 (k : Nat) (t0 : Cell) (t1 : Int) (t2 : Int) (t3 : Stamp) : Option (Cell × Bool) :=
  (F24 k t0 t1).bind fun t14 => (F22 k t0).bind fun t16 => (bif (!(!t16)) then F66 k t1 else some default).bind fun t20 => (bif (!((!t16) || (!t20))) then F66 k t2 else some default).bind fun t25 => (bif (!(((!t16) || (!t20)) || (!t25))) then F68 k t3 else some default).bind fun t30 => bif (((((!t16) || (!t20)) || (!t25)) || (!t30)) || (eqI t14.mID 0)) then (some (t0, false)) else (bif (leI t2 t14.mSeen) then (some (t0, true)) else ((bif (eqI t14.mHold t2) then (some 0) else (some t14.mHold)).bind fun t10c13 => (F79 k t0 ({t14 with mHold := t10c13, mSeen := t2}) false).bind fun t53 => (F97 k t0.mTop t3).bind fun t57 => some ({t53 with mTop := t57}, true)))
/- stratigraph/stratigraphref07.Equal -/
def F102_l1 (t0 : List Version) (t1 : List Version) : Nat → Int → Option (LR Bool Unit)
  | 0, _ => none
  | k + 1, t5 =>
    bif (ltI t5 (t0.length : Int)) then (bif inR t5 t0.length then (bif inR t5 t1.length then (bif (!(qVersion (rd t0 t5) (rd t1 t5))) then (some (.ret false)) else (F102_l1 t0 t1 k (IntKind.wrap .i64 (t5 + 1)))) else none) else none) else (some (.out ()))
def F102 (k : Nat) (t0 : List Version) (t1 : List Version) : Option Bool :=
  bif (!eqI (t0.length : Int) (t1.length : Int)) then (some false) else ((F102_l1 t0 t1 k 0).bind fun t => t.go fun _ => some true)
/- stratigraph/stratigraphref08.Equal -/
def F40_l1 (t0 : List Entry) (t1 : List Entry) : Nat → Int → Option (LR Bool Unit)
  | 0, _ => none
  | k + 1, t5 =>
    bif (ltI t5 (t0.length : Int)) then (bif inR t5 t0.length then (bif inR t5 t1.length then (bif (!(!(!strEq (rd t0 t5).mKey (rd t1 t5).mKey)) || inR t5 t0.length) then (bif (!(!(!strEq (rd t0 t5).mKey (rd t1 t5).mKey)) || inR t5 t1.length) then ((bif (!(!strEq (rd t0 t5).mKey (rd t1 t5).mKey)) then F102 k (rd t0 t5).mChain (rd t1 t5).mChain else some default).bind fun t39 => bif ((!strEq (rd t0 t5).mKey (rd t1 t5).mKey) || (!t39)) then (some (.ret false)) else (F40_l1 t0 t1 k (IntKind.wrap .i64 (t5 + 1)))) else none) else none) else none) else none) else (some (.out ()))
def F40 (k : Nat) (t0 : List Entry) (t1 : List Entry) : Option Bool :=
  bif (!eqI (t0.length : Int) (t1.length : Int)) then (some false) else ((F40_l1 t0 t1 k 0).bind fun t => t.go fun _ => some true)
/- stratigraph/stratigraphref10.SameAnswer -/
def F19_l1 (t0 : Answer) (t1 : Answer) : Nat → Int → Option (LR Bool Unit)
  | 0, _ => none
  | k + 1, t5 =>
    bif (ltI t5 (t0.mItems.length : Int)) then (bif inR t5 t0.mItems.length then (bif inR t5 t1.mItems.length then (bif (!(qItem (rd t0.mItems t5) (rd t1.mItems t5))) then (some (.ret false)) else (F19_l1 t0 t1 k (IntKind.wrap .i64 (t5 + 1)))) else none) else none) else (some (.out ()))
def F19 (k : Nat) (t0 : Answer) (t1 : Answer) : Option Bool :=
  bif (!eqI (t0.mItems.length : Int) (t1.mItems.length : Int)) then (some false) else ((F19_l1 t0 t1 k 0).bind fun t => t.go fun _ => some ((((((eqI t0.mErr t1.mErr) && (qStamp t0.mAt t1.mAt)) && (t0.mFound == t1.mFound)) && (strEq t0.mValue t1.mValue)) && (strEq t0.mNext t1.mNext)) && (t0.mMore == t1.mMore)))
/- stratigraph/stratigraphref10.Equal -/
def F41_l1 (t0 : List Done) (t1 : List Done) : Nat → Int → Option (LR Bool Unit)
  | 0, _ => none
  | k + 1, t5 =>
    bif (ltI t5 (t0.length : Int)) then (bif inR t5 t0.length then (bif inR t5 t1.length then (bif (!(!(!eqI (rd t0 t5).mClient (rd t1 t5).mClient)) || inR t5 t0.length) then (bif (!(!(!eqI (rd t0 t5).mClient (rd t1 t5).mClient)) || inR t5 t1.length) then (bif (!(!((!eqI (rd t0 t5).mClient (rd t1 t5).mClient) || (!eqI (rd t0 t5).mReq (rd t1 t5).mReq))) || inR t5 t0.length) then (bif (!(!((!eqI (rd t0 t5).mClient (rd t1 t5).mClient) || (!eqI (rd t0 t5).mReq (rd t1 t5).mReq))) || inR t5 t1.length) then ((bif (!((!eqI (rd t0 t5).mClient (rd t1 t5).mClient) || (!eqI (rd t0 t5).mReq (rd t1 t5).mReq))) then F19 k (rd t0 t5).mAnswer (rd t1 t5).mAnswer else some default).bind fun t52 => bif (((!eqI (rd t0 t5).mClient (rd t1 t5).mClient) || (!eqI (rd t0 t5).mReq (rd t1 t5).mReq)) || (!t52)) then (some (.ret false)) else (F41_l1 t0 t1 k (IntKind.wrap .i64 (t5 + 1)))) else none) else none) else none) else none) else none) else none) else (some (.out ()))
def F41 (k : Nat) (t0 : List Done) (t1 : List Done) : Option Bool :=
  bif (!eqI (t0.length : Int) (t1.length : Int)) then (some false) else ((F41_l1 t0 t1 k 0).bind fun t => t.go fun _ => some true)
/- stratigraph/stratigraphref11.SameShard -/
def F26 (k : Nat) (t0 : Shard) (t1 : Shard) : Option Bool :=
  (bif ((((eqI t0.mID t1.mID) && (eqI t0.mEpoch t1.mEpoch)) && (qSpan t0.mSpan t1.mSpan)) && (eqI t0.mPhase t1.mPhase)) then F40 k t0.mEntries t1.mEntries else some default).bind fun t36 => (bif (((((((eqI t0.mID t1.mID) && (eqI t0.mEpoch t1.mEpoch)) && (qSpan t0.mSpan t1.mSpan)) && (eqI t0.mPhase t1.mPhase)) && t36) && (qStamp t0.mMark t1.mMark)) && (qStamp t0.mTop t1.mTop)) then F41 k t0.mDone t1.mDone else some default).bind fun t57 => some ((((((((((((eqI t0.mID t1.mID) && (eqI t0.mEpoch t1.mEpoch)) && (qSpan t0.mSpan t1.mSpan)) && (eqI t0.mPhase t1.mPhase)) && t36) && (qStamp t0.mMark t1.mMark)) && (qStamp t0.mTop t1.mTop)) && t57) && (eqI t0.mHold t1.mHold)) && (eqI t0.mSeen t1.mSeen)) && (eqI t0.mMove t1.mMove)) && (eqI t0.mClosed t1.mClosed))
/- stratigraph/stratigraphref11.Equal -/
def F18_l1 (t0 : Cell) (t1 : Cell) : Nat → Int → Option (LR Bool Unit)
  | 0, _ => none
  | k + 1, t5 =>
    bif (ltI t5 (t0.mShards.length : Int)) then (bif inR t5 t0.mShards.length then (bif inR t5 t1.mShards.length then ((F26 k (rd t0.mShards t5) (rd t1.mShards t5)).bind fun t44 => bif (!t44) then (some (.ret false)) else (F18_l1 t0 t1 k (IntKind.wrap .i64 (t5 + 1)))) else none) else none) else (some (.out ()))
def F18 (k : Nat) (t0 : Cell) (t1 : Cell) : Option Bool :=
  bif (((!eqI (t0.mShards.length : Int) (t1.mShards.length : Int)) || (!(qStamp t0.mTop t1.mTop))) || (!eqI t0.mDropped t1.mDropped)) then (some false) else ((F18_l1 t0 t1 k 0).bind fun t => t.go fun _ => some true)
/- stratigraph/stratigraphlaw11.EngineHolds -/
def F6 (k : Nat) (t0 : Cell) (t1 : Int) (t2 : Int) (t3 : Int) (t4 : Stamp) : Option Bool :=
  (F14 k t0).bind fun t20 => bif (!t20) then ((F15 k).bind fun t22 => some t22) else ((F30 k t0 t1 t2 t3).bind fun (t28a, t28b) => (F31 k t0 t1 t2 t3).bind fun (t36a, t36b) => (F32 k t0 t1 t3 t4).bind fun (t44a, t44b) => (F33 k t0 t1 t3 t4).bind fun (t52a, t52b) => (F18 k t28a t36a).bind fun t57 => (bif (t57 && (t28b == t36b)) then F18 k t44a t52a else some default).bind fun t66 => (bif (((t57 && (t28b == t36b)) && t66) && (t44b == t52b)) then F15 k else some default).bind fun t74 => some ((((t57 && (t28b == t36b)) && t66) && (t44b == t52b)) && t74))
end Go.Proofs.Gd
