import Derived.Test.YtidiihhfpbnbaaaDoorCqUtf
set_option linter.unusedVariables false
namespace Go.Proofs.Cq
open Go Go.Awp
structure Span where
  mLo : ByteArray
  mHi : ByteArray
instance : Inhabited Span := ⟨(⟨⟨#[]⟩, ⟨#[]⟩⟩ : Span)⟩
def eSpan (x : Span) : List D := [.s (.string x.mLo), .s (.string x.mHi)]
theorem teSpan : EncT eSpan 2 := encT_of (fun _ => rfl) (fun _ => rfl)
def vSpan (x : Span) : List Value := [.string x.mLo, .string x.mHi]
def qSpan (a b : Span) : Bool := strEq a.mLo b.mLo && (strEq a.mHi b.mHi && (true))
structure Place where
  mSpan : Span
  mShard : Int
  mCell : Int
  mEpoch : Int
instance : Inhabited Place := ⟨(⟨(⟨⟨#[]⟩, ⟨#[]⟩⟩ : Span), 0, 0, 0⟩ : Place)⟩
def ePlace (x : Place) : List D := [.s (.string x.mSpan.mLo), .s (.string x.mSpan.mHi), .s (.int .i64 x.mShard), .s (.int .i64 x.mCell), .s (.int .i64 x.mEpoch)]
theorem tePlace : EncT ePlace 5 := encT_of (fun _ => rfl) (fun _ => rfl)
def vPlace (x : Place) : List Value := [.string x.mSpan.mLo, .string x.mSpan.mHi, .int .i64 x.mShard, .int .i64 x.mCell, .int .i64 x.mEpoch]
def qPlace (a b : Place) : Bool := qSpan a.mSpan b.mSpan && (eqI a.mShard b.mShard && (eqI a.mCell b.mCell && (eqI a.mEpoch b.mEpoch && (true))))
structure Stamp where
  mWall : Int
  mTick : Int
  mNode : Int
instance : Inhabited Stamp := ⟨(⟨0, 0, 0⟩ : Stamp)⟩
def eStamp (x : Stamp) : List D := [.s (.int .i64 x.mWall), .s (.int .i64 x.mTick), .s (.int .i64 x.mNode)]
theorem teStamp : EncT eStamp 3 := encT_of (fun _ => rfl) (fun _ => rfl)
def vStamp (x : Stamp) : List Value := [.int .i64 x.mWall, .int .i64 x.mTick, .int .i64 x.mNode]
def qStamp (a b : Stamp) : Bool := eqI a.mWall b.mWall && (eqI a.mTick b.mTick && (eqI a.mNode b.mNode && (true)))
structure Request where
  mClient : Int
  mReq : Int
  mKind : Int
  mKey : ByteArray
  mValue : ByteArray
  mHad : Bool
  mOld : ByteArray
  mAt : Stamp
  mHi : ByteArray
  mLimit : Int
instance : Inhabited Request := ⟨(⟨0, 0, 0, ⟨#[]⟩, ⟨#[]⟩, false, ⟨#[]⟩, (⟨0, 0, 0⟩ : Stamp), ⟨#[]⟩, 0⟩ : Request)⟩
def eRequest (x : Request) : List D := [.s (.int .i64 x.mClient), .s (.int .i64 x.mReq), .s (.int .i64 x.mKind), .s (.string x.mKey), .s (.string x.mValue), .s (.bool x.mHad), .s (.string x.mOld), .s (.int .i64 x.mAt.mWall), .s (.int .i64 x.mAt.mTick), .s (.int .i64 x.mAt.mNode), .s (.string x.mHi), .s (.int .i64 x.mLimit)]
theorem teRequest : EncT eRequest 12 := encT_of (fun _ => rfl) (fun _ => rfl)
def vRequest (x : Request) : List Value := [.int .i64 x.mClient, .int .i64 x.mReq, .int .i64 x.mKind, .string x.mKey, .string x.mValue, .bool x.mHad, .string x.mOld, .int .i64 x.mAt.mWall, .int .i64 x.mAt.mTick, .int .i64 x.mAt.mNode, .string x.mHi, .int .i64 x.mLimit]
def qRequest (a b : Request) : Bool := eqI a.mClient b.mClient && (eqI a.mReq b.mReq && (eqI a.mKind b.mKind && (strEq a.mKey b.mKey && (strEq a.mValue b.mValue && ((a.mHad == b.mHad) && (strEq a.mOld b.mOld && (qStamp a.mAt b.mAt && (strEq a.mHi b.mHi && (eqI a.mLimit b.mLimit && (true))))))))))
structure Client where
  mID : Int
  mNext : Int
  mPlaces : List Place
  mLeads : List Int
  mReq : Request
  mOpens : Bool
  mTries : Int
instance : Inhabited Client := ⟨(⟨0, 0, [], [], (⟨0, 0, 0, ⟨#[]⟩, ⟨#[]⟩, false, ⟨#[]⟩, (⟨0, 0, 0⟩ : Stamp), ⟨#[]⟩, 0⟩ : Request), false, 0⟩ : Client)⟩
def eClient (x : Client) : List D := [.s (.int .i64 x.mID), .s (.int .i64 x.mNext), .sl 5 (x.mPlaces.map ePlace), .sl 1 (x.mLeads.map (eI .i64)), .s (.int .i64 x.mReq.mClient), .s (.int .i64 x.mReq.mReq), .s (.int .i64 x.mReq.mKind), .s (.string x.mReq.mKey), .s (.string x.mReq.mValue), .s (.bool x.mReq.mHad), .s (.string x.mReq.mOld), .s (.int .i64 x.mReq.mAt.mWall), .s (.int .i64 x.mReq.mAt.mTick), .s (.int .i64 x.mReq.mAt.mNode), .s (.string x.mReq.mHi), .s (.int .i64 x.mReq.mLimit), .s (.bool x.mOpens), .s (.int .i64 x.mTries)]
theorem teClient : EncT eClient 18 := encT_of (fun _ => rfl) (fun _ => rfl)
structure Item where
  mKey : ByteArray
  mValue : ByteArray
instance : Inhabited Item := ⟨(⟨⟨#[]⟩, ⟨#[]⟩⟩ : Item)⟩
def eItem (x : Item) : List D := [.s (.string x.mKey), .s (.string x.mValue)]
theorem teItem : EncT eItem 2 := encT_of (fun _ => rfl) (fun _ => rfl)
structure Answer where
  mErr : Int
  mAt : Stamp
  mFound : Bool
  mValue : ByteArray
  mItems : List Item
  mNext : ByteArray
  mMore : Bool
instance : Inhabited Answer := ⟨(⟨0, (⟨0, 0, 0⟩ : Stamp), false, ⟨#[]⟩, [], ⟨#[]⟩, false⟩ : Answer)⟩
def eAnswer (x : Answer) : List D := [.s (.int .i64 x.mErr), .s (.int .i64 x.mAt.mWall), .s (.int .i64 x.mAt.mTick), .s (.int .i64 x.mAt.mNode), .s (.bool x.mFound), .s (.string x.mValue), .sl 2 (x.mItems.map eItem), .s (.string x.mNext), .s (.bool x.mMore)]
theorem teAnswer : EncT eAnswer 9 := encT_of (fun _ => rfl) (fun _ => rfl)
structure Msg where
  mKind : Int
  mFrom : Int
  mTo : Int
  mShard : Int
  mEpoch : Int
  mMove : Int
  mLease : Int
  mN : Int
  mOf : Int
  mAt : Stamp
  mText : ByteArray
  mReq : Request
  mAnswer : Answer
  mPlaces : List Place
  mMembers : List Int
instance : Inhabited Msg := ⟨(⟨0, 0, 0, 0, 0, 0, 0, 0, 0, (⟨0, 0, 0⟩ : Stamp), ⟨#[]⟩, (⟨0, 0, 0, ⟨#[]⟩, ⟨#[]⟩, false, ⟨#[]⟩, (⟨0, 0, 0⟩ : Stamp), ⟨#[]⟩, 0⟩ : Request), (⟨0, (⟨0, 0, 0⟩ : Stamp), false, ⟨#[]⟩, [], ⟨#[]⟩, false⟩ : Answer), [], []⟩ : Msg)⟩
def eMsg (x : Msg) : List D := [.s (.int .i64 x.mKind), .s (.int .i64 x.mFrom), .s (.int .i64 x.mTo), .s (.int .i64 x.mShard), .s (.int .i64 x.mEpoch), .s (.int .i64 x.mMove), .s (.int .i64 x.mLease), .s (.int .i64 x.mN), .s (.int .i64 x.mOf), .s (.int .i64 x.mAt.mWall), .s (.int .i64 x.mAt.mTick), .s (.int .i64 x.mAt.mNode), .s (.string x.mText), .s (.int .i64 x.mReq.mClient), .s (.int .i64 x.mReq.mReq), .s (.int .i64 x.mReq.mKind), .s (.string x.mReq.mKey), .s (.string x.mReq.mValue), .s (.bool x.mReq.mHad), .s (.string x.mReq.mOld), .s (.int .i64 x.mReq.mAt.mWall), .s (.int .i64 x.mReq.mAt.mTick), .s (.int .i64 x.mReq.mAt.mNode), .s (.string x.mReq.mHi), .s (.int .i64 x.mReq.mLimit), .s (.int .i64 x.mAnswer.mErr), .s (.int .i64 x.mAnswer.mAt.mWall), .s (.int .i64 x.mAnswer.mAt.mTick), .s (.int .i64 x.mAnswer.mAt.mNode), .s (.bool x.mAnswer.mFound), .s (.string x.mAnswer.mValue), .sl 2 (x.mAnswer.mItems.map eItem), .s (.string x.mAnswer.mNext), .s (.bool x.mAnswer.mMore), .sl 5 (x.mPlaces.map ePlace), .sl 1 (x.mMembers.map (eI .i64))]
theorem teMsg : EncT eMsg 36 := encT_of (fun _ => rfl) (fun _ => rfl)
structure Told where
  mDone : Bool
  mReq : Request
  mOpens : Bool
  mAnswer : Answer
  mLease : Int
instance : Inhabited Told := ⟨(⟨false, (⟨0, 0, 0, ⟨#[]⟩, ⟨#[]⟩, false, ⟨#[]⟩, (⟨0, 0, 0⟩ : Stamp), ⟨#[]⟩, 0⟩ : Request), false, (⟨0, (⟨0, 0, 0⟩ : Stamp), false, ⟨#[]⟩, [], ⟨#[]⟩, false⟩ : Answer), 0⟩ : Told)⟩
def eTold (x : Told) : List D := [.s (.bool x.mDone), .s (.int .i64 x.mReq.mClient), .s (.int .i64 x.mReq.mReq), .s (.int .i64 x.mReq.mKind), .s (.string x.mReq.mKey), .s (.string x.mReq.mValue), .s (.bool x.mReq.mHad), .s (.string x.mReq.mOld), .s (.int .i64 x.mReq.mAt.mWall), .s (.int .i64 x.mReq.mAt.mTick), .s (.int .i64 x.mReq.mAt.mNode), .s (.string x.mReq.mHi), .s (.int .i64 x.mReq.mLimit), .s (.bool x.mOpens), .s (.int .i64 x.mAnswer.mErr), .s (.int .i64 x.mAnswer.mAt.mWall), .s (.int .i64 x.mAnswer.mAt.mTick), .s (.int .i64 x.mAnswer.mAt.mNode), .s (.bool x.mAnswer.mFound), .s (.string x.mAnswer.mValue), .sl 2 (x.mAnswer.mItems.map eItem), .s (.string x.mAnswer.mNext), .s (.bool x.mAnswer.mMore), .s (.int .i64 x.mLease)]
theorem teTold : EncT eTold 24 := encT_of (fun _ => rfl) (fun _ => rfl)
/- stratigraph/stratigraphlaw20.small -/
def F4 (k : Nat) (t0 : Client) : Option Bool :=
  some ((leI (t0.mPlaces.length : Int) 40) && (leI (t0.mLeads.length : Int) 40))
/- stratigraph/stratigraphref18.SmallMsg -/
def F5 (k : Nat) (t0 : Msg) : Option Bool :=
  some ((((leI (t0.mAnswer.mItems.length : Int) 40) && (leI (t0.mPlaces.length : Int) 40)) && (leI (t0.mMembers.length : Int) 40)) && (leI (t0.mText.size : Int) 262144))
/- stratigraph/client.New -/
def F11 (k : Nat) (t0 : Int) : Option (Client × Int) :=
  bif ((ltI t0 1) || (ltI 8 t0)) then (some ((⟨0, 0, ([] : List Place), ([] : List Int), (⟨0, 0, 0, (⟨#[]⟩ : ByteArray), (⟨#[]⟩ : ByteArray), false, (⟨#[]⟩ : ByteArray), (⟨0, 0, 0⟩ : Stamp), (⟨#[]⟩ : ByteArray), 0⟩ : Request), false, 0⟩ : Client), 1)) else (some ((⟨t0, 1, ([] : List Place), ([] : List Int), (⟨0, 0, 0, (⟨#[]⟩ : ByteArray), (⟨#[]⟩ : ByteArray), false, (⟨#[]⟩ : ByteArray), (⟨0, 0, 0⟩ : Stamp), (⟨#[]⟩ : ByteArray), 0⟩ : Request), false, 0⟩ : Client), 0))
/- stratigraph/atlas.number -/
def F38 (k : Nat) (t0 : Int) : Option Bool :=
  some ((leI 1 t0) && (leI t0 1099511627776))
/- stratigraph/atlas.cell -/
def F39 (k : Nat) (t0 : Int) : Option Bool :=
  some ((leI 1 t0) && (leI t0 3))
/- stratigraph/atlas.Right$1 -/
def F41 (k : Nat) (t0 : Place) (t1 : Place) : Option Bool :=
  some (eqI t0.mShard t1.mShard)
/- slices.IndexFunc[[]stratigraph/api.Place,stratigraph/api.Place] -/
def F46_41_l1 (t0 : List Place) (t1u0 : Place) : Nat → Int → Option (LR Int Unit)
  | 0, _ => none
  | k + 1, t8 =>
    bif (ltI t8 (t0.length : Int)) then (bif inR t8 t0.length then ((F41 k (rd t0 t8) t1u0).bind fun t16 => bif t16 then (some (.ret t8)) else (F46_41_l1 t0 t1u0 k (IntKind.wrap .i64 (t8 + 1)))) else none) else (some (.out ()))
def F46_41 (k : Nat) (t0 : List Place) (t1u0 : Place) : Option Int :=
  (F46_41_l1 t0 t1u0 k 0).bind fun t => t.go fun _ => some (-1)
/- slices.ContainsFunc[[]stratigraph/api.Place,stratigraph/api.Place] -/
def F40_41 (k : Nat) (t0 : List Place) (t1u0 : Place) : Option Bool :=
  (F46_41 k t0 t1u0).bind fun t7 => some (leI 0 t7)
/- unicode/utf8.DecodeRuneInString -/
def F43 (k : Nat) (t0 : ByteArray) : Option (Int × Int) :=
  bif (!(!strEq t0 (⟨#[]⟩ : ByteArray)) || inR 0 t0.size) then (bif ((!strEq t0 (⟨#[]⟩ : ByteArray)) && (ltI (bt t0 0) 128)) then (bif inR 0 t0.size then (some ((IntKind.wrap .i32 (bt t0 0)), 1)) else none) else ((F47 k t0).bind fun (t16a, t16b) => some (t16a, t16b))) else none
/- stratigraph/key.plain -/
def F44 (k : Nat) (t0 : Int) (t1 : Int) : Option Bool :=
  some (((leI 33 t0) && ((ltI t0 127) || (ltI 159 t0))) && ((!eqI t0 65533) || (eqI t1 3)))
/- stratigraph/key.Right -/
def F32_l1 (t0 : ByteArray) : Nat → Nat → Option (LR Bool Unit)
  | 0, _ => none
  | k + 1, t8p =>
    bif (nxc t0 t8p) then (bif cutOK ((t8p : Nat) : Int) (t0.size : Int) t0.size then ((F43 k (t0.extract ((t8p : Nat) : Int).toNat (t0.size : Int).toNat)).bind fun (t17a, t17b) => (F44 k (nxr t0 t8p) t17b).bind fun t22 => bif (!t22) then (some (.ret false)) else (F32_l1 t0 k (nxw t0 t8p))) else none) else (some (.out ()))
def F32 (k : Nat) (t0 : ByteArray) : Option Bool :=
  (F32_l1 t0 k 0).bind fun t => t.go fun _ => some ((leI 1 (t0.size : Int)) && (leI (t0.size : Int) 16))
/- stratigraph/key.Compare -/
def F33_l1 : Nat → (ByteArray × ByteArray) → Option (LR Int (ByteArray × ByteArray))
  | 0, _ => none
  | k + 1, (t0_2, t1_2) =>
    bif ((!strEq t0_2 (⟨#[]⟩ : ByteArray)) && (!strEq t1_2 (⟨#[]⟩ : ByteArray))) then ((F43 k t0_2).bind fun (t17a, t17b) => (F43 k t1_2).bind fun (t22a, t22b) => bif (ltI t17a t22a) then (some (.ret (-1))) else (bif (ltI t22a t17a) then (some (.ret 1)) else (bif cutOK t17b (t0_2.size : Int) t0_2.size then (bif cutOK t22b (t1_2.size : Int) t1_2.size then (F33_l1 k ((t0_2.extract t17b.toNat (t0_2.size : Int).toNat), (t1_2.extract t22b.toNat (t1_2.size : Int).toNat))) else none) else none))) else (some (.out (t0_2, t1_2)))
def F33 (k : Nat) (t0 : ByteArray) (t1 : ByteArray) : Option Int :=
  (F33_l1 k (t0, t1)).bind fun t => t.go fun (t0_1, t1_1) => bif (!strEq t0_1 (⟨#[]⟩ : ByteArray)) then (some 1) else (bif (!strEq t1_1 (⟨#[]⟩ : ByteArray)) then (some (-1)) else (some 0))
/- stratigraph/span.Right -/
def F23 (k : Nat) (t0 : Span) : Option Bool :=
  (bif (!strEq t0.mLo (⟨#[]⟩ : ByteArray)) then F32 k t0.mLo else some default).bind fun t9 => bif ((!strEq t0.mLo (⟨#[]⟩ : ByteArray)) && (!t9)) then (some false) else ((bif (!(strEq t0.mHi (⟨#[]⟩ : ByteArray))) then F32 k t0.mHi else some default).bind fun t18 => (bif ((!(strEq t0.mHi (⟨#[]⟩ : ByteArray))) && t18) then F33 k t0.mLo t0.mHi else some default).bind fun t24 => some ((strEq t0.mHi (⟨#[]⟩ : ByteArray)) || (t18 && (ltI t24 0))))
/- stratigraph/span.Whole -/
def F42_l1 (t0 : List Span) : Nat → (ByteArray × Int) → Option (LR Bool ByteArray)
  | 0, _ => none
  | k + 1, (t3_1, t8) =>
    bif (ltI t8 (t0.length : Int)) then (bif inR t8 t0.length then ((F23 k (rd t0 t8)).bind fun t14 => bif (((!t14) || (!strEq (rd t0 t8).mLo t3_1)) || ((ltI 0 t8) && (strEq t3_1 (⟨#[]⟩ : ByteArray)))) then (some (.ret false)) else (F42_l1 t0 k ((rd t0 t8).mHi, (IntKind.wrap .i64 (t8 + 1))))) else none) else (some (.out t3_1))
def F42 (k : Nat) (t0 : List Span) : Option Bool :=
  (F42_l1 t0 k ((⟨#[]⟩ : ByteArray), 0)).bind fun t => t.go fun t3 => some ((ltI 0 (t0.length : Int)) && (strEq t3 (⟨#[]⟩ : ByteArray)))
/- stratigraph/atlas.Right -/
def F30_l1 (t0 : List Place) : Nat → ((List Span) × Int) → Option (LR Bool (List Span))
  | 0, _ => none
  | k + 1, (t3_1, t11) =>
    bif (ltI t11 (t0.length : Int)) then (bif inR t11 t0.length then ((F38 k (rd t0 t11).mShard).bind fun t18 => (bif (!(!t18)) then F38 k (rd t0 t11).mEpoch else some default).bind fun t23 => (bif (!((!t18) || (!t23))) then F39 k (rd t0 t11).mCell else some default).bind fun t29 => bif (((!t18) || (!t23)) || (!t29)) then (some (.ret false)) else (bif cutOK 0 t11 t0.length then ((F40_41 k (List.take t11.toNat t0) (rd t0 t11)).bind fun t36 => bif t36 then (some (.ret false)) else (bif appOK 32 t3_1.length ([(rd t0 t11).mSpan]).length then (F30_l1 t0 k ((t3_1 ++ [(rd t0 t11).mSpan]), (IntKind.wrap .i64 (t11 + 1)))) else none)) else none)) else none) else (some (.out t3_1))
def F30 (k : Nat) (t0 : List Place) : Option Bool :=
  bif (ltI 8 (t0.length : Int)) then (some false) else ((F30_l1 t0 k ([], 0)).bind fun t => t.go fun t3 => (F42 k t3).bind fun t44 => some t44)
/- stratigraph/client.known$1 -/
def F31 (k : Nat) (t0 : Int) : Option Bool :=
  some ((ltI t0 1) || (ltI 3 t0))
/- slices.IndexFunc[[]int,int] -/
def F36_31_l1 (t0 : List Int) : Nat → Int → Option (LR Int Unit)
  | 0, _ => none
  | k + 1, t8 =>
    bif (ltI t8 (t0.length : Int)) then (bif inR t8 t0.length then ((F31 k (rd t0 t8)).bind fun t16 => bif t16 then (some (.ret t8)) else (F36_31_l1 t0 k (IntKind.wrap .i64 (t8 + 1)))) else none) else (some (.out ()))
def F36_31 (k : Nat) (t0 : List Int) : Option Int :=
  (F36_31_l1 t0 k 0).bind fun t => t.go fun _ => some (-1)
/- slices.ContainsFunc[[]int,int] -/
def F26_31 (k : Nat) (t0 : List Int) : Option Bool :=
  (F36_31 k t0).bind fun t7 => some (leI 0 t7)
/- stratigraph/client.known -/
def F17 (k : Nat) (t0 : List Place) (t1 : List Int) : Option Bool :=
  (F30 k t0).bind fun t6 => (bif (t6 && (eqI (t1.length : Int) 3)) then F26_31 k t1 else some default).bind fun t14 => some ((t6 && (eqI (t1.length : Int) 3)) && (!t14))
/- stratigraph/engine.from$1 -/
def F45 (k : Nat) (t0 : Int) (t1 : Int) : Option Bool :=
  some ((ltI t0 t1) || (ltI 1099511627776 t0))
/- slices.IndexFunc[[]int,int] -/
def F36_45_l1 (t0 : List Int) (t1u0 : Int) : Nat → Int → Option (LR Int Unit)
  | 0, _ => none
  | k + 1, t8 =>
    bif (ltI t8 (t0.length : Int)) then (bif inR t8 t0.length then ((F45 k (rd t0 t8) t1u0).bind fun t16 => bif t16 then (some (.ret t8)) else (F36_45_l1 t0 t1u0 k (IntKind.wrap .i64 (t8 + 1)))) else none) else (some (.out ()))
def F36_45 (k : Nat) (t0 : List Int) (t1u0 : Int) : Option Int :=
  (F36_45_l1 t0 t1u0 k 0).bind fun t => t.go fun _ => some (-1)
/- slices.ContainsFunc[[]int,int] -/
def F26_45 (k : Nat) (t0 : List Int) (t1u0 : Int) : Option Bool :=
  (F36_45 k t0 t1u0).bind fun t7 => some (leI 0 t7)
/- stratigraph/engine.from -/
def F34 (k : Nat) (t0 : Int) (t1 : List Int) : Option Bool :=
  (F26_45 k t1 t0).bind fun t7 => some (!t7)
/- stratigraph/stamp.within -/
def F37 (k : Nat) (t0 : Int) (t1 : Int) : Option Bool :=
  some ((leI 0 t0) && (leI t0 t1))
/- stratigraph/stamp.Right -/
def F29 (k : Nat) (t0 : Stamp) : Option Bool :=
  (F37 k t0.mWall 1099511627776).bind fun t5 => (bif t5 then F37 k t0.mTick 1048576 else some default).bind fun t9 => (bif (t5 && t9) then F37 k t0.mNode 255 else some default).bind fun t14 => some ((t5 && t9) && t14)
/- stratigraph/engine.RightRequest -/
def F24 (k : Nat) (t0 : Request) : Option Bool :=
  (F34 k 1 ([t0.mClient, t0.mReq])).bind fun t8 => (bif (!(((((((!t8) || (ltI t0.mKind 1)) || (ltI 6 t0.mKind)) || (ltI 16 (t0.mValue.size : Int))) || (ltI 16 (t0.mOld.size : Int))) || (ltI t0.mLimit 0)) || (ltI 8 t0.mLimit))) then F29 k t0.mAt else some default).bind fun t45 => (bif ((!((((((((!t8) || (ltI t0.mKind 1)) || (ltI 6 t0.mKind)) || (ltI 16 (t0.mValue.size : Int))) || (ltI 16 (t0.mOld.size : Int))) || (ltI t0.mLimit 0)) || (ltI 8 t0.mLimit)) || (!t45))) && (!strEq t0.mHi (⟨#[]⟩ : ByteArray))) then F32 k t0.mHi else some default).bind fun t55 => bif (((((((((!t8) || (ltI t0.mKind 1)) || (ltI 6 t0.mKind)) || (ltI 16 (t0.mValue.size : Int))) || (ltI 16 (t0.mOld.size : Int))) || (ltI t0.mLimit 0)) || (ltI 8 t0.mLimit)) || (!t45)) || ((!strEq t0.mHi (⟨#[]⟩ : ByteArray)) && (!t55))) then (some false) else (bif (eqI t0.mKind 6) then ((bif (!(strEq t0.mKey (⟨#[]⟩ : ByteArray))) then F32 k t0.mKey else some default).bind fun t68 => some (((strEq t0.mKey (⟨#[]⟩ : ByteArray)) || t68) && (leI 1 t0.mLimit))) else ((F32 k t0.mKey).bind fun t77 => some t77))
/- stratigraph/client.Right -/
def F13 (k : Nat) (t0 : Client) : Option Bool :=
  bif ((((((ltI t0.mID 1) || (ltI 8 t0.mID)) || (ltI t0.mNext 1)) || (ltI 1099511627776 t0.mNext)) || (ltI t0.mTries 0)) || (ltI 12 t0.mTries)) then (some false) else (bnd ((IntKind.wrap .i64 ((t0.mPlaces.length : Int) + (t0.mLeads.length : Int)))) fun t37 => (bif (ltI 0 t37) then F17 k t0.mPlaces t0.mLeads else some default).bind fun t44 => bif ((ltI 0 t37) && (!t44)) then (some false) else (bif (eqI t0.mReq.mReq 0) then (some true) else (bif (((!eqI t0.mReq.mClient t0.mID) || (ltI t0.mReq.mReq 1)) || (leI t0.mNext t0.mReq.mReq)) then (some false) else (bif t0.mOpens then ((bif (eqI t0.mReq.mKind 0) then F23 k (⟨t0.mReq.mKey, t0.mReq.mHi⟩ : Span) else some default).bind fun t88 => some ((eqI t0.mReq.mKind 0) && t88)) else ((F24 k t0.mReq).bind fun t92 => some t92)))))
/- stratigraph/client.free -/
def F21 (k : Nat) (t0 : Client) : Option Int :=
  (F13 k t0).bind fun t5 => bif (!t5) then (some 1) else (bif (!eqI t0.mReq.mReq 0) then (some 11) else (bif (eqI t0.mNext 1099511627776) then (some 6) else (some 0)))
/- stratigraph/client.pend -/
def F22 (k : Nat) (t0 : Client) (t1 : Request) (t2 : Bool) : Option (Client × Int) :=
  (F13 k (⟨t0.mID, (IntKind.wrap .i64 (t0.mNext + 1)), t0.mPlaces, t0.mLeads, {t1 with mClient := t0.mID, mReq := t0.mNext}, t2, 12⟩ : Client)).bind fun t26 => bif (!t26) then (some (t0, 1)) else (some ((⟨t0.mID, (IntKind.wrap .i64 (t0.mNext + 1)), t0.mPlaces, t0.mLeads, {t1 with mClient := t0.mID, mReq := t0.mNext}, t2, 12⟩ : Client), 0))
/- stratigraph/client.Ask -/
def F12 (k : Nat) (t0 : Client) (t1 : Request) : Option (Client × Int) :=
  (F21 k t0).bind fun t8 => bif (!eqI t8 0) then (some (t0, t8)) else ((F22 k t0 t1 false).bind fun (t15a, t15b) => some (t15a, t15b))
/- stratigraph/client.told -/
def F14 (k : Nat) (t0 : Client) (t1 : Answer) (t2 : Int) : Option (Client × (List Msg) × Told) :=
  some ({t0 with mReq := (⟨0, 0, 0, (⟨#[]⟩ : ByteArray), (⟨#[]⟩ : ByteArray), false, (⟨#[]⟩ : ByteArray), (⟨0, 0, 0⟩ : Stamp), (⟨#[]⟩ : ByteArray), 0⟩ : Request), mOpens := false, mTries := 0}, ([] : List Msg), (⟨true, t0.mReq, t0.mOpens, t1, t2⟩ : Told))
/- stratigraph/span.Has -/
def F35 (k : Nat) (t0 : Span) (t1 : ByteArray) : Option Bool :=
  (F23 k t0).bind fun t6 => (bif t6 then F32 k t1 else some default).bind fun t9 => (bif (t6 && t9) then F33 k t0.mLo t1 else some default).bind fun t15 => (bif (((t6 && t9) && (leI t15 0)) && (!(strEq t0.mHi (⟨#[]⟩ : ByteArray)))) then F33 k t1 t0.mHi else some default).bind fun t26 => some (((t6 && t9) && (leI t15 0)) && ((strEq t0.mHi (⟨#[]⟩ : ByteArray)) || (ltI t26 0)))
/- stratigraph/atlas.Find -/
def F25_l1 (t0 : List Place) (t1 : ByteArray) : Nat → Int → Option (LR (Place × Bool) Unit)
  | 0, _ => none
  | k + 1, t23 =>
    bif (ltI t23 (t0.length : Int)) then (bif inR t23 t0.length then ((bif (!(strEq t1 (⟨#[]⟩ : ByteArray))) then F35 k (rd t0 t23).mSpan t1 else some default).bind fun t33 => bif ((strEq t1 (⟨#[]⟩ : ByteArray)) || t33) then (some (.ret ((rd t0 t23), true))) else (F25_l1 t0 t1 k (IntKind.wrap .i64 (t23 + 1)))) else none) else (some (.out ()))
def F25 (k : Nat) (t0 : List Place) (t1 : ByteArray) : Option (Place × Bool) :=
  (F30 k t0).bind fun t9 => (bif ((!(!t9)) && (!strEq t1 (⟨#[]⟩ : ByteArray))) then F32 k t1 else some default).bind fun t16 => bif ((!t9) || ((!strEq t1 (⟨#[]⟩ : ByteArray)) && (!t16))) then (some ((⟨(⟨(⟨#[]⟩ : ByteArray), (⟨#[]⟩ : ByteArray)⟩ : Span), 0, 0, 0⟩ : Place), false)) else ((F25_l1 t0 t1 k 0).bind fun t => t.go fun _ => some ((⟨(⟨(⟨#[]⟩ : ByteArray), (⟨#[]⟩ : ByteArray)⟩ : Span), 0, 0, 0⟩ : Place), false))
/- stratigraph/client.send -/
def F15 (k : Nat) (t0 : Client) : Option (List Msg) :=
  (F25 k t0.mPlaces t0.mReq.mKey).bind fun (t16a, t16b) => bif t0.mOpens then (some ([(⟨5, (IntKind.wrap .i64 (10 + t0.mID)), 0, 0, 0, 0, 0, t0.mReq.mReq, 0, (⟨0, 0, 0⟩ : Stamp), (⟨#[]⟩ : ByteArray), t0.mReq, (⟨0, (⟨0, 0, 0⟩ : Stamp), false, (⟨#[]⟩ : ByteArray), ([] : List Item), (⟨#[]⟩ : ByteArray), false⟩ : Answer), ([] : List Place), ([] : List Int)⟩ : Msg)])) else (bif (!t16b) then (some ([(⟨3, (IntKind.wrap .i64 (10 + t0.mID)), 0, 0, 0, 0, 0, 0, 0, (⟨0, 0, 0⟩ : Stamp), (⟨#[]⟩ : ByteArray), (⟨0, 0, 0, (⟨#[]⟩ : ByteArray), (⟨#[]⟩ : ByteArray), false, (⟨#[]⟩ : ByteArray), (⟨0, 0, 0⟩ : Stamp), (⟨#[]⟩ : ByteArray), 0⟩ : Request), (⟨0, (⟨0, 0, 0⟩ : Stamp), false, (⟨#[]⟩ : ByteArray), ([] : List Item), (⟨#[]⟩ : ByteArray), false⟩ : Answer), ([] : List Place), ([] : List Int)⟩ : Msg)])) else (bif inR (IntKind.wrap .i64 (t16a.mCell - 1)) t0.mLeads.length then (some ([(⟨1, (IntKind.wrap .i64 (10 + t0.mID)), (rd t0.mLeads (IntKind.wrap .i64 (t16a.mCell - 1))), t16a.mShard, t16a.mEpoch, 0, 0, t16a.mCell, 0, (⟨0, 0, 0⟩ : Stamp), (⟨#[]⟩ : ByteArray), t0.mReq, (⟨0, (⟨0, 0, 0⟩ : Stamp), false, (⟨#[]⟩ : ByteArray), ([] : List Item), (⟨#[]⟩ : ByteArray), false⟩ : Answer), ([] : List Place), ([] : List Int)⟩ : Msg)])) else none))
/- stratigraph/client.Tick -/
def F7 (k : Nat) (t0 : Client) : Option (Client × (List Msg) × Told) :=
  (F13 k t0).bind fun t7 => bif ((!t7) || (eqI t0.mReq.mReq 0)) then (some (t0, ([] : List Msg), (⟨false, (⟨0, 0, 0, (⟨#[]⟩ : ByteArray), (⟨#[]⟩ : ByteArray), false, (⟨#[]⟩ : ByteArray), (⟨0, 0, 0⟩ : Stamp), (⟨#[]⟩ : ByteArray), 0⟩ : Request), false, (⟨0, (⟨0, 0, 0⟩ : Stamp), false, (⟨#[]⟩ : ByteArray), ([] : List Item), (⟨#[]⟩ : ByteArray), false⟩ : Answer), 0⟩ : Told))) else (bif (eqI t0.mTries 0) then ((F14 k t0 (⟨14, (⟨0, 0, 0⟩ : Stamp), false, (⟨#[]⟩ : ByteArray), ([] : List Item), (⟨#[]⟩ : ByteArray), false⟩ : Answer) 0).bind fun (t23a, t23b, t23c) => some (t23a, t23b, t23c)) else ((F15 k ({t0 with mTries := (IntKind.wrap .i64 (t0.mTries - 1))})).bind fun t33 => some ({t0 with mTries := (IntKind.wrap .i64 (t0.mTries - 1))}, t33, (⟨false, (⟨0, 0, 0, (⟨#[]⟩ : ByteArray), (⟨#[]⟩ : ByteArray), false, (⟨#[]⟩ : ByteArray), (⟨0, 0, 0⟩ : Stamp), (⟨#[]⟩ : ByteArray), 0⟩ : Request), false, (⟨0, (⟨0, 0, 0⟩ : Stamp), false, (⟨#[]⟩ : ByteArray), ([] : List Item), (⟨#[]⟩ : ByteArray), false⟩ : Answer), 0⟩ : Told))))
/- stratigraph/stratigraphlaw20.awake -/
def F6 (k : Nat) : Option Bool :=
  (F11 k 1).bind fun (t7a, t7b) => (F12 k t7a (⟨0, 0, 4, (⟨#[97]⟩ : ByteArray), (⟨#[]⟩ : ByteArray), false, (⟨#[]⟩ : ByteArray), (⟨0, 0, 0⟩ : Stamp), (⟨#[]⟩ : ByteArray), 0⟩ : Request)).bind fun (t13a, t13b) => (F7 k t13a).bind fun (t18a, t18b, t18c) => bif (!(((eqI t7b 0) && (eqI t13b 0)) && (eqI (t18b.length : Int) 1)) || inR 0 t18b.length) then (bif (!((((eqI t7b 0) && (eqI t13b 0)) && (eqI (t18b.length : Int) 1)) && (eqI (rd t18b 0).mKind 3)) || inR 0 t18b.length) then ((bif (((((eqI t7b 0) && (eqI t13b 0)) && (eqI (t18b.length : Int) 1)) && (eqI (rd t18b 0).mKind 3)) && (eqI (rd t18b 0).mFrom 11)) then F13 k t18a else some default).bind fun t49 => some ((((((eqI t7b 0) && (eqI t13b 0)) && (eqI (t18b.length : Int) 1)) && (eqI (rd t18b 0).mKind 3)) && (eqI (rd t18b 0).mFrom 11)) && t49)) else none) else none
/- stratigraph/book.numbers -/
def F27_l1 (t0 : Msg) : Nat → ((List Int) × Int) → Option (List Int)
  | 0, _ => none
  | k + 1, (t3_1, t40) =>
    bif (ltI t40 (t0.mPlaces.length : Int)) then (bif inR t40 t0.mPlaces.length then (bif appOK 8 t3_1.length ([(rd t0.mPlaces t40).mShard, (rd t0.mPlaces t40).mCell, (rd t0.mPlaces t40).mEpoch]).length then (F27_l1 t0 k ((t3_1 ++ [(rd t0.mPlaces t40).mShard, (rd t0.mPlaces t40).mCell, (rd t0.mPlaces t40).mEpoch]), (IntKind.wrap .i64 (t40 + 1)))) else none) else none) else (some t3_1)
def F27 (k : Nat) (t0 : Msg) : Option (List Int) :=
  (F27_l1 t0 k ([t0.mKind, t0.mFrom, t0.mTo, t0.mShard, t0.mEpoch, t0.mMove, t0.mLease, t0.mN, t0.mOf, t0.mReq.mClient, t0.mReq.mReq, t0.mReq.mKind, t0.mReq.mLimit], 0)).bind fun t3 => bif appOK 8 t3.length t0.mMembers.length then (some (t3 ++ t0.mMembers)) else none
/- stratigraph/book.RightMsg$1 -/
def F28 (k : Nat) (t0 : Int) : Option Bool :=
  some ((ltI t0 0) || (ltI 1099511627776 t0))
/- slices.IndexFunc[[]int,int] -/
def F36_28_l1 (t0 : List Int) : Nat → Int → Option (LR Int Unit)
  | 0, _ => none
  | k + 1, t8 =>
    bif (ltI t8 (t0.length : Int)) then (bif inR t8 t0.length then ((F28 k (rd t0 t8)).bind fun t16 => bif t16 then (some (.ret t8)) else (F36_28_l1 t0 k (IntKind.wrap .i64 (t8 + 1)))) else none) else (some (.out ()))
def F36_28 (k : Nat) (t0 : List Int) : Option Int :=
  (F36_28_l1 t0 k 0).bind fun t => t.go fun _ => some (-1)
/- slices.ContainsFunc[[]int,int] -/
def F26_28 (k : Nat) (t0 : List Int) : Option Bool :=
  (F36_28 k t0).bind fun t7 => some (leI 0 t7)
/- stratigraph/book.RightMsg -/
def F16 (k : Nat) (t0 : Msg) : Option Bool :=
  bif (((((((ltI t0.mKind 1) || (ltI 37 t0.mKind)) || (ltI t0.mAnswer.mErr 0)) || (ltI 16 t0.mAnswer.mErr)) || (ltI 8 (t0.mAnswer.mItems.length : Int))) || (ltI 8 (t0.mPlaces.length : Int))) || (ltI 8 (t0.mMembers.length : Int))) then (some false) else ((F27 k t0).bind fun t43 => (F26_28 k t43).bind fun t44 => bif t44 then (some false) else ((F29 k t0.mAt).bind fun t47 => (bif t47 then F29 k t0.mReq.mAt else some default).bind fun t52 => (bif (t47 && t52) then F29 k t0.mAnswer.mAt else some default).bind fun t58 => some ((t47 && t52) && t58)))
/- slices.Clone[[]stratigraph/api.Place,stratigraph/api.Place] -/
def F18 (k : Nat) (t0 : List Place) : Option (List Place) :=
  bif appOK 56 ([] : List Place).length t0.length then (some (([] : List Place) ++ t0)) else none
/- slices.Clone[[]int,int] -/
def F19 (k : Nat) (t0 : List Int) : Option (List Int) :=
  bif appOK 8 ([] : List Int).length t0.length then (some (([] : List Int) ++ t0)) else none
/- stratigraph/client.Hear -/
def F8 (k : Nat) (t0 : Client) (t1 : Msg) : Option (Client × (List Msg) × Told) :=
  (F13 k t0).bind fun t10 => (bif (!(!t10)) then F16 k t1 else some default).bind fun t14 => bif (((!t10) || (!t14)) || (!eqI t1.mTo (IntKind.wrap .i64 (10 + t0.mID)))) then (some (t0, ([] : List Msg), (⟨false, (⟨0, 0, 0, (⟨#[]⟩ : ByteArray), (⟨#[]⟩ : ByteArray), false, (⟨#[]⟩ : ByteArray), (⟨0, 0, 0⟩ : Stamp), (⟨#[]⟩ : ByteArray), 0⟩ : Request), false, (⟨0, (⟨0, 0, 0⟩ : Stamp), false, (⟨#[]⟩ : ByteArray), ([] : List Item), (⟨#[]⟩ : ByteArray), false⟩ : Answer), 0⟩ : Told))) else (bif (eqI t1.mKind 4) then ((F17 k t1.mPlaces t1.mMembers).bind fun t44 => bif (!t44) then (some (t0, ([] : List Msg), (⟨false, (⟨0, 0, 0, (⟨#[]⟩ : ByteArray), (⟨#[]⟩ : ByteArray), false, (⟨#[]⟩ : ByteArray), (⟨0, 0, 0⟩ : Stamp), (⟨#[]⟩ : ByteArray), 0⟩ : Request), false, (⟨0, (⟨0, 0, 0⟩ : Stamp), false, (⟨#[]⟩ : ByteArray), ([] : List Item), (⟨#[]⟩ : ByteArray), false⟩ : Answer), 0⟩ : Told))) else ((F18 k t1.mPlaces).bind fun t48 => (F19 k t1.mMembers).bind fun t51 => bif (((!eqI t0.mReq.mReq 0) && (!t0.mOpens)) && (ltI 0 t0.mTries)) then ((F15 k ({t0 with mPlaces := t48, mLeads := t51})).bind fun t62 => some ({t0 with mPlaces := t48, mLeads := t51}, t62, (⟨false, (⟨0, 0, 0, (⟨#[]⟩ : ByteArray), (⟨#[]⟩ : ByteArray), false, (⟨#[]⟩ : ByteArray), (⟨0, 0, 0⟩ : Stamp), (⟨#[]⟩ : ByteArray), 0⟩ : Request), false, (⟨0, (⟨0, 0, 0⟩ : Stamp), false, (⟨#[]⟩ : ByteArray), ([] : List Item), (⟨#[]⟩ : ByteArray), false⟩ : Answer), 0⟩ : Told))) else (some ({t0 with mPlaces := t48, mLeads := t51}, ([] : List Msg), (⟨false, (⟨0, 0, 0, (⟨#[]⟩ : ByteArray), (⟨#[]⟩ : ByteArray), false, (⟨#[]⟩ : ByteArray), (⟨0, 0, 0⟩ : Stamp), (⟨#[]⟩ : ByteArray), 0⟩ : Request), false, (⟨0, (⟨0, 0, 0⟩ : Stamp), false, (⟨#[]⟩ : ByteArray), ([] : List Item), (⟨#[]⟩ : ByteArray), false⟩ : Answer), 0⟩ : Told))))) else (bif (eqI t1.mKind 2) then (bif (((!((!eqI t0.mReq.mReq 0) && (!t0.mOpens))) || (!eqI t1.mReq.mClient t0.mID)) || (!eqI t1.mReq.mReq t0.mReq.mReq)) then (some (t0, ([] : List Msg), (⟨false, (⟨0, 0, 0, (⟨#[]⟩ : ByteArray), (⟨#[]⟩ : ByteArray), false, (⟨#[]⟩ : ByteArray), (⟨0, 0, 0⟩ : Stamp), (⟨#[]⟩ : ByteArray), 0⟩ : Request), false, (⟨0, (⟨0, 0, 0⟩ : Stamp), false, (⟨#[]⟩ : ByteArray), ([] : List Item), (⟨#[]⟩ : ByteArray), false⟩ : Answer), 0⟩ : Told))) else (bif (eqI t1.mAnswer.mErr 10) then (some ({t0 with mPlaces := ([] : List Place), mLeads := ([] : List Int)}, ([] : List Msg), (⟨false, (⟨0, 0, 0, (⟨#[]⟩ : ByteArray), (⟨#[]⟩ : ByteArray), false, (⟨#[]⟩ : ByteArray), (⟨0, 0, 0⟩ : Stamp), (⟨#[]⟩ : ByteArray), 0⟩ : Request), false, (⟨0, (⟨0, 0, 0⟩ : Stamp), false, (⟨#[]⟩ : ByteArray), ([] : List Item), (⟨#[]⟩ : ByteArray), false⟩ : Answer), 0⟩ : Told))) else (bif (eqI t1.mAnswer.mErr 11) then (some (t0, ([] : List Msg), (⟨false, (⟨0, 0, 0, (⟨#[]⟩ : ByteArray), (⟨#[]⟩ : ByteArray), false, (⟨#[]⟩ : ByteArray), (⟨0, 0, 0⟩ : Stamp), (⟨#[]⟩ : ByteArray), 0⟩ : Request), false, (⟨0, (⟨0, 0, 0⟩ : Stamp), false, (⟨#[]⟩ : ByteArray), ([] : List Item), (⟨#[]⟩ : ByteArray), false⟩ : Answer), 0⟩ : Told))) else ((F14 k t0 t1.mAnswer 0).bind fun (t91a, t91b, t91c) => some (t91a, t91b, t91c))))) else (bif (eqI t1.mKind 6) then (bif (((!eqI t0.mReq.mReq 0) && t0.mOpens) && (eqI t1.mN t0.mReq.mReq)) then ((F14 k t0 ({t1.mAnswer with mAt := t1.mAt}) t1.mLease).bind fun (t128a, t128b, t128c) => some (t128a, t128b, t128c)) else (some (t0, ([] : List Msg), (⟨false, (⟨0, 0, 0, (⟨#[]⟩ : ByteArray), (⟨#[]⟩ : ByteArray), false, (⟨#[]⟩ : ByteArray), (⟨0, 0, 0⟩ : Stamp), (⟨#[]⟩ : ByteArray), 0⟩ : Request), false, (⟨0, (⟨0, 0, 0⟩ : Stamp), false, (⟨#[]⟩ : ByteArray), ([] : List Item), (⟨#[]⟩ : ByteArray), false⟩ : Answer), 0⟩ : Told)))) else (some (t0, ([] : List Msg), (⟨false, (⟨0, 0, 0, (⟨#[]⟩ : ByteArray), (⟨#[]⟩ : ByteArray), false, (⟨#[]⟩ : ByteArray), (⟨0, 0, 0⟩ : Stamp), (⟨#[]⟩ : ByteArray), 0⟩ : Request), false, (⟨0, (⟨0, 0, 0⟩ : Stamp), false, (⟨#[]⟩ : ByteArray), ([] : List Item), (⟨#[]⟩ : ByteArray), false⟩ : Answer), 0⟩ : Told))))))
/- stratigraph/stratigraphlaw20.ref -/
def F10 (k : Nat) (t0 : Client) : Option Client :=
  some t0
/- stratigraph/stratigraphref15.Equal -/
def F20_l1 (t0 : List Place) (t1 : List Place) : Nat → Int → Option (LR Bool Unit)
  | 0, _ => none
  | k + 1, t5 =>
    bif (ltI t5 (t0.length : Int)) then (bif inR t5 t0.length then (bif inR t5 t1.length then (bif (!(qPlace (rd t0 t5) (rd t1 t5))) then (some (.ret false)) else (F20_l1 t0 t1 k (IntKind.wrap .i64 (t5 + 1)))) else none) else none) else (some (.out ()))
def F20 (k : Nat) (t0 : List Place) (t1 : List Place) : Option Bool :=
  bif (!eqI (t0.length : Int) (t1.length : Int)) then (some false) else ((F20_l1 t0 t1 k 0).bind fun t => t.go fun _ => some true)
/- stratigraph/stratigraphref20.Equal -/
def F9_l1 (t0 : Client) (t1 : Client) : Nat → Int → Option (LR Bool Unit)
  | 0, _ => none
  | k + 1, t5 =>
    bif (ltI t5 (t0.mLeads.length : Int)) then (bif inR t5 t0.mLeads.length then (bif inR t5 t1.mLeads.length then (bif (!eqI (rd t0.mLeads t5) (rd t1.mLeads t5)) then (some (.ret false)) else (F9_l1 t0 t1 k (IntKind.wrap .i64 (t5 + 1)))) else none) else none) else (some (.out ()))
def F9 (k : Nat) (t0 : Client) (t1 : Client) : Option Bool :=
  bif (!eqI (t0.mLeads.length : Int) (t1.mLeads.length : Int)) then (some false) else ((F9_l1 t0 t1 k 0).bind fun t => t.go fun _ => (bif ((eqI t0.mID t1.mID) && (eqI t0.mNext t1.mNext)) then F20 k t0.mPlaces t1.mPlaces else some default).bind fun t48 => some ((((((eqI t0.mID t1.mID) && (eqI t0.mNext t1.mNext)) && t48) && (qRequest t0.mReq t1.mReq)) && (t0.mOpens == t1.mOpens)) && (eqI t0.mTries t1.mTries)))
/- stratigraph/stratigraphlaw20.ClientQuiet -/
def F3 (k : Nat) (t0 : Client) (t1 : Msg) : Option Bool :=
  (F4 k t0).bind fun t12 => (bif (!(!t12)) then F5 k t1 else some default).bind fun t16 => bif (((!t12) || (!t16)) || (!eqI t0.mReq.mReq 0)) then ((F6 k).bind fun t25 => some t25) else ((F7 k t0).bind fun (t28a, t28b, t28c) => (F8 k t0 t1).bind fun (t35a, t35b, t35c) => (F10 k t28a).bind fun t40 => (F10 k t0).bind fun t42 => (F9 k t40 t42).bind fun t43 => (bif ((((((t43 && (eqI t35a.mID t0.mID)) && (eqI t35a.mNext t0.mNext)) && (qRequest t35a.mReq t0.mReq)) && (eqI (IntKind.wrap .i64 ((t28b.length : Int) + (t35b.length : Int))) 0)) && (!t28c.mDone)) && (!t35c.mDone)) then F6 k else some default).bind fun t84 => some (((((((t43 && (eqI t35a.mID t0.mID)) && (eqI t35a.mNext t0.mNext)) && (qRequest t35a.mReq t0.mReq)) && (eqI (IntKind.wrap .i64 ((t28b.length : Int) + (t35b.length : Int))) 0)) && (!t28c.mDone)) && (!t35c.mDone)) && t84))
end Go.Proofs.Cq
