/- Texts of the mirror and contracts, put together. -/
import Derived.Calls
import Derived.Lib.ItoaNum
import Derived.Below
import Derived.Tactics
import Derived.Lib.FrozenHead
import Derived.DeepKeys
import Derived.WalkKit
namespace Go.aa
section
structure Phase where
 From:Int
 To:Int
 Outside:Int
def Phase.zero:Phase:=⟨0,0,0⟩
structure aj where
 Name:ByteArray
 Side:Int
 Innings:Int
 Overs:Int
 Balls:Int
 Quota:Int
 Wide:Int
 NoBall:Int
 FreeHit:Bool
 NewBall:Int
 FollowOn:Int
 Reviews:Int
 Outside:Int
 Power :(List aa.Phase)
def aj.zero:aj:=⟨ByteArray.empty,0,0,0,0,0,0,0,false,0,0,0,0,[]⟩
structure an where
 Wides:Int
 NoBalls:Int
 Byes:Int
 LegByes:Int
 Penalties:Int
def an.zero:an:=⟨0,0,0,0,0⟩
structure aH where
 Over:Int
 Bowler:Int
 Symbols :(List ByteArray)
def aH.zero:aH:=⟨0,0,[]⟩
structure ak where
 Player:Int
 Symbols :(List ByteArray)
 How:Int
 Bowler:Int
def ak.zero:ak:=⟨0,[],0,0⟩
structure ay where
 Side:Int
 Boxes :(List aa.aH)
 Strips :(List aa.ak)
 an:aa.an
 Total:Int
 Wickets:Int
def ay.zero:ay:=⟨0,[],[],an.zero,0,0⟩
structure ah where
 Player:Int
 Balls:Int
 Maidens:Int
 Runs:Int
 Wickets:Int
 Wides:Int
 NoBalls:Int
def ah.zero:ah:=⟨0,0,0,0,0,0,0⟩
structure aF where
 Player:Int
 Runs:Int
 Balls:Int
 Fours:Int
 Sixes:Int
 Out:Bool
 How:Int
 Bowler:Int
 Fielder:Int
 Batted:Bool
def aF.zero:aF:=⟨0,0,0,0,0,false,0,0,0,false⟩
structure b8 where
 Typ:Int
 Source:Int
 Runs:Int
 Short:Int
 Boundary:Int
 Crossed:Bool
 How:Int
 Victim:Int
 Fielder:Int
 Second:Int
 Sub:Bool
 Sector:Int
def b8.zero:b8:=⟨0,0,0,0,0,false,0,0,0,0,false,0⟩
structure ab where
 kind:Int
 charge:Int
 byes:Int
 leg:Int
 mark:Int
def ab.zero:ab:=⟨0,0,0,0,0⟩
structure ag where
 Text:ByteArray
 Typ:Int
 Charge:Int
 Byes:Int
 LegByes:Int
 Wicket:Bool
 Other:Bool
def ag.zero:ag:=⟨ByteArray.empty,0,0,0,0,false,false⟩
structure Result where
 Win:Int
 Side:Int
 Margin:Int
def Result.zero:Result:=⟨0,0,0⟩
structure Innings where
 Side:Int
 Target:Int
 Overs:Int
 Runs:Int
 Wickets:Int
 an:aa.an
 Complete:Int
 InOver:Int
 Striker:Int
 Other:Int
 Batters :(List Int)
 Bowler:Int
 Bowlers :(List Int)
 Before :(List Int)
 Fresh:Bool
 Bowled :(List Int)
 FreeHit:Bool
 BallAge:Int
 Keeper:Int
 Outside:Int
 Subs :(List Bool)
 Reviews :(Int×Int×Unit)
 Ending:Int
def Innings.zero:Innings:=⟨0,0,0,0,0,an.zero,0,0,0,0,[],0,[],[],false,[],false,0,0,0,[],(0,0,()),0⟩
structure Match where
 aj:aa.aj
 Stage:Int
 First:Int
 Follow:Bool
 Innings :(List aa.Innings)
 Penalty :(Int×Int×Unit)
 Result:aa.Result
def Match.zero:Match:=⟨aj.zero,0,0,false,[],(0,0,()),Result.zero⟩
structure eU where
 Batter:Int
 Wides:Int
 NoBalls:Int
 Byes:Int
 LegByes:Int
 Bowler:Int
 Counts:Bool
 Faced:Bool
 Wicket:Bool
 Swap:Bool
def eU.zero:eU:=⟨0,0,0,0,0,0,false,false,false,false⟩
structure cA where
 Event:Int
 Innings:Int
 Over:Int
 Ball:Int
 Bowler:Int
 Striker:Int
 Partner:Int
 Free:Bool
 b8:aa.b8
 eU:aa.eU
 Runs:Int
 Wickets:Int
def cA.zero:cA:=⟨0,0,0,0,0,0,0,false,b8.zero,eU.zero,0,0⟩
structure Score where
 Side:Int
 Runs:Int
 Wickets:Int
 Balls:Int
 an:aa.an
 Ending:Int
def Score.zero:Score:=⟨0,0,0,0,an.zero,0⟩
structure Event where
 Kind:Int
 Side:Int
 Player:Int
 Other:Int
 Yes:Bool
 Runs:Int
 Overs:Int
 Ball:aa.b8
def Event.zero:Event:=⟨0,0,0,0,false,0,0,b8.zero⟩
structure bW where
 faced:Int
 charges:Int
 wides:Int
 noBalls:Int
 byes:Int
 legByes:Int
 others:Int
 wickets :(List Int)
def bW.zero:bW:=⟨0,0,0,0,0,0,0,[]⟩
structure ao where
 how:Int
 name:ByteArray
 fair:Bool
 wide:Bool
 no:Bool
 fielder:Bool
 either:Bool
def ao.zero:ao:=⟨0,ByteArray.empty,false,false,false,false,false⟩
structure cH where
 Side:Bool
 Player:Bool
 Other:Bool
 Yes:Bool
 Runs:Bool
 Overs:Bool
 Ball:Bool
def cH.zero:cH:=⟨false,false,false,false,false,false,false⟩
structure cB where
 word:ByteArray
 fields:ByteArray
 yes:ByteArray
 no:ByteArray
def cB.zero:cB:=⟨ByteArray.empty,ByteArray.empty,ByteArray.empty,ByteArray.empty⟩
inductive Nm where
 | Phase|aj|an|aH|ak|ay|ah|aF|b8|ab|ag|Result|Innings|Match|eU|cA|Score|Event|bW|ao|cH|cB|none_
deriving DecidableEq
inductive Ty where
 | int (k:IntKind)|bool|str|unit|prod (a b:Ty)|slice (a:Ty)|nm (n:Nm)
deriving DecidableEq
def Nm.T:Nm->Type
 | .Phase=>aa.Phase
 | .aj=>aa.aj
 | .an=>aa.an
 | .aH=>aa.aH
 | .ak=>aa.ak
 | .ay=>aa.ay
 | .ah=>aa.ah
 | .aF=>aa.aF
 | .b8=>aa.b8
 | .ab=>aa.ab
 | .ag=>aa.ag
 | .Result=>aa.Result
 | .Innings=>aa.Innings
 | .Match=>aa.Match
 | .eU=>aa.eU
 | .cA=>aa.cA
 | .Score=>aa.Score
 | .Event=>aa.Event
 | .bW=>aa.bW
 | .ao=>aa.ao
 | .cH=>aa.cH
 | .cB=>aa.cB
 | .none_=>Unit
def Den:Ty->Type
 | .int _=>Int | .bool=>Bool | .str=>ByteArray | .unit=>Unit
 | .prod a b=>Den a×Den b | .slice a=>List (Den a) | .nm n=>n.T
def Nm.size:Nm->Nat
 | .Phase=>3
 | .aj=>14
 | .an=>5
 | .aH=>3
 | .ak=>4
 | .ay=>10
 | .ah=>7
 | .aF=>10
 | .b8=>12
 | .ab=>5
 | .ag=>7
 | .Result=>3
 | .Innings=>28
 | .Match=>23
 | .eU=>10
 | .cA=>32
 | .Score=>10
 | .Event=>19
 | .bW=>8
 | .ao=>7
 | .cH=>7
 | .cB=>4
 | .none_=>0
def Nm.n7:Nm->Ty
 | .Phase=> .prod (.int .i64) (.prod (.int .i64) (.prod (.int .i64) (.unit)))
 | .aj=> .prod (.str) (.prod (.int .i64) (.prod (.int .i64) (.prod (.int .i64) (.prod (.int .i64) (.prod (.int .i64) (.prod (.int .i64) (.prod (.int .i64) (.prod (.bool) (.prod (.int .i64) (.prod (.int .i64) (.prod (.int .i64) (.prod (.int .i64) (.prod (.slice (.nm .Phase)) (.unit))))))))))))))
 | .an=> .prod (.int .i64) (.prod (.int .i64) (.prod (.int .i64) (.prod (.int .i64) (.prod (.int .i64) (.unit)))))
 | .aH=> .prod (.int .i64) (.prod (.int .i64) (.prod (.slice (.str)) (.unit)))
 | .ak=> .prod (.int .i64) (.prod (.slice (.str)) (.prod (.int .u8) (.prod (.int .i64) (.unit))))
 | .ay=> .prod (.int .i64) (.prod (.slice (.nm .aH)) (.prod (.slice (.nm .ak)) (.prod (.nm .an) (.prod (.int .i64) (.prod (.int .i64) (.unit))))))
 | .ah=> .prod (.int .i64) (.prod (.int .i64) (.prod (.int .i64) (.prod (.int .i64) (.prod (.int .i64) (.prod (.int .i64) (.prod (.int .i64) (.unit)))))))
 | .aF=> .prod (.int .i64) (.prod (.int .i64) (.prod (.int .i64) (.prod (.int .i64) (.prod (.int .i64) (.prod (.bool) (.prod (.int .u8) (.prod (.int .i64) (.prod (.int .i64) (.prod (.bool) (.unit))))))))))
 | .b8=> .prod (.int .u8) (.prod (.int .u8) (.prod (.int .i64) (.prod (.int .i64) (.prod (.int .i64) (.prod (.bool) (.prod (.int .u8) (.prod (.int .i64) (.prod (.int .i64) (.prod (.int .i64) (.prod (.bool) (.prod (.int .i64) (.unit))))))))))))
 | .ab=> .prod (.int .u8) (.prod (.int .i64) (.prod (.int .i64) (.prod (.int .i64) (.prod (.int .u8) (.unit)))))
 | .ag=> .prod (.str) (.prod (.int .u8) (.prod (.int .i64) (.prod (.int .i64) (.prod (.int .i64) (.prod (.bool) (.prod (.bool) (.unit)))))))
 | .Result=> .prod (.int .u8) (.prod (.int .i64) (.prod (.int .i64) (.unit)))
 | .Innings=> .prod (.int .i64) (.prod (.int .i64) (.prod (.int .i64) (.prod (.int .i64) (.prod (.int .i64) (.prod (.nm .an) (.prod (.int .i64) (.prod (.int .i64) (.prod (.int .i64) (.prod (.int .i64) (.prod (.slice (.int .u8)) (.prod (.int .i64) (.prod (.slice (.int .i64)) (.prod (.slice (.int .i64)) (.prod (.bool) (.prod (.slice (.int .i64)) (.prod (.bool) (.prod (.int .i64) (.prod (.int .i64) (.prod (.int .i64) (.prod (.slice (.bool)) (.prod (.prod (.int .i64) (.prod (.int .i64) (.unit))) (.prod (.int .u8) (.unit)))))))))))))))))))))))
 | .Match=> .prod (.nm .aj) (.prod (.int .u8) (.prod (.int .i64) (.prod (.bool) (.prod (.slice (.nm .Innings)) (.prod (.prod (.int .i64) (.prod (.int .i64) (.unit))) (.prod (.nm .Result) (.unit)))))))
 | .eU=> .prod (.int .i64) (.prod (.int .i64) (.prod (.int .i64) (.prod (.int .i64) (.prod (.int .i64) (.prod (.int .i64) (.prod (.bool) (.prod (.bool) (.prod (.bool) (.prod (.bool) (.unit))))))))))
 | .cA=> .prod (.int .i64) (.prod (.int .i64) (.prod (.int .i64) (.prod (.int .i64) (.prod (.int .i64) (.prod (.int .i64) (.prod (.int .i64) (.prod (.bool) (.prod (.nm .b8) (.prod (.nm .eU) (.prod (.int .i64) (.prod (.int .i64) (.unit))))))))))))
 | .Score=> .prod (.int .i64) (.prod (.int .i64) (.prod (.int .i64) (.prod (.int .i64) (.prod (.nm .an) (.prod (.int .u8) (.unit))))))
 | .Event=> .prod (.int .u8) (.prod (.int .i64) (.prod (.int .i64) (.prod (.int .i64) (.prod (.bool) (.prod (.int .i64) (.prod (.int .i64) (.prod (.nm .b8) (.unit))))))))
 | .bW=> .prod (.int .i64) (.prod (.int .i64) (.prod (.int .i64) (.prod (.int .i64) (.prod (.int .i64) (.prod (.int .i64) (.prod (.int .i64) (.prod (.slice (.int .i64)) (.unit))))))))
 | .ao=> .prod (.int .u8) (.prod (.str) (.prod (.bool) (.prod (.bool) (.prod (.bool) (.prod (.bool) (.prod (.bool) (.unit)))))))
 | .cH=> .prod (.bool) (.prod (.bool) (.prod (.bool) (.prod (.bool) (.prod (.bool) (.prod (.bool) (.prod (.bool) (.unit)))))))
 | .cB=> .prod (.str) (.prod (.str) (.prod (.str) (.prod (.str) (.unit))))
 | .none_=> .unit
def Nm.to :(n:Nm)->n.T->Den n.n7
 | .Phase,x=>(x.From,x.To,x.Outside,())
 | .aj,x=>(x.Name,x.Side,x.Innings,x.Overs,x.Balls,x.Quota,x.Wide,x.NoBall,x.FreeHit,x.NewBall,x.FollowOn,x.Reviews,x.Outside,x.Power,())
 | .an,x=>(x.Wides,x.NoBalls,x.Byes,x.LegByes,x.Penalties,())
 | .aH,x=>(x.Over,x.Bowler,x.Symbols,())
 | .ak,x=>(x.Player,x.Symbols,x.How,x.Bowler,())
 | .ay,x=>(x.Side,x.Boxes,x.Strips,x.an,x.Total,x.Wickets,())
 | .ah,x=>(x.Player,x.Balls,x.Maidens,x.Runs,x.Wickets,x.Wides,x.NoBalls,())
 | .aF,x=>(x.Player,x.Runs,x.Balls,x.Fours,x.Sixes,x.Out,x.How,x.Bowler,x.Fielder,x.Batted,())
 | .b8,x=>(x.Typ,x.Source,x.Runs,x.Short,x.Boundary,x.Crossed,x.How,x.Victim,x.Fielder,x.Second,x.Sub,x.Sector,())
 | .ab,x=>(x.kind,x.charge,x.byes,x.leg,x.mark,())
 | .ag,x=>(x.Text,x.Typ,x.Charge,x.Byes,x.LegByes,x.Wicket,x.Other,())
 | .Result,x=>(x.Win,x.Side,x.Margin,())
 | .Innings,x=>(x.Side,x.Target,x.Overs,x.Runs,x.Wickets,x.an,x.Complete,x.InOver,x.Striker,x.Other,x.Batters,x.Bowler,x.Bowlers,x.Before,x.Fresh,x.Bowled,x.FreeHit,x.BallAge,x.Keeper,x.Outside,x.Subs,x.Reviews,x.Ending,())
 | .Match,x=>(x.aj,x.Stage,x.First,x.Follow,x.Innings,x.Penalty,x.Result,())
 | .eU,x=>(x.Batter,x.Wides,x.NoBalls,x.Byes,x.LegByes,x.Bowler,x.Counts,x.Faced,x.Wicket,x.Swap,())
 | .cA,x=>(x.Event,x.Innings,x.Over,x.Ball,x.Bowler,x.Striker,x.Partner,x.Free,x.b8,x.eU,x.Runs,x.Wickets,())
 | .Score,x=>(x.Side,x.Runs,x.Wickets,x.Balls,x.an,x.Ending,())
 | .Event,x=>(x.Kind,x.Side,x.Player,x.Other,x.Yes,x.Runs,x.Overs,x.Ball,())
 | .bW,x=>(x.faced,x.charges,x.wides,x.noBalls,x.byes,x.legByes,x.others,x.wickets,())
 | .ao,x=>(x.how,x.name,x.fair,x.wide,x.no,x.fielder,x.either,())
 | .cH,x=>(x.Side,x.Player,x.Other,x.Yes,x.Runs,x.Overs,x.Ball,())
 | .cB,x=>(x.word,x.fields,x.yes,x.no,())
 | .none_,_=>()
def Nm.of :(n:Nm)->Den n.n7->n.T
 | .Phase,x=>⟨x.1,x.2.1,x.2.2.1⟩
 | .aj,x=>⟨x.1,x.2.1,x.2.2.1,x.2.2.2.1,x.2.2.2.2.1,x.2.2.2.2.2.1,x.2.2.2.2.2.2.1,x.2.2.2.2.2.2.2.1,x.2.2.2.2.2.2.2.2.1,x.2.2.2.2.2.2.2.2.2.1,x.2.2.2.2.2.2.2.2.2.2.1,x.2.2.2.2.2.2.2.2.2.2.2.1,x.2.2.2.2.2.2.2.2.2.2.2.2.1,x.2.2.2.2.2.2.2.2.2.2.2.2.2.1⟩
 | .an,x=>⟨x.1,x.2.1,x.2.2.1,x.2.2.2.1,x.2.2.2.2.1⟩
 | .aH,x=>⟨x.1,x.2.1,x.2.2.1⟩
 | .ak,x=>⟨x.1,x.2.1,x.2.2.1,x.2.2.2.1⟩
 | .ay,x=>⟨x.1,x.2.1,x.2.2.1,x.2.2.2.1,x.2.2.2.2.1,x.2.2.2.2.2.1⟩
 | .ah,x=>⟨x.1,x.2.1,x.2.2.1,x.2.2.2.1,x.2.2.2.2.1,x.2.2.2.2.2.1,x.2.2.2.2.2.2.1⟩
 | .aF,x=>⟨x.1,x.2.1,x.2.2.1,x.2.2.2.1,x.2.2.2.2.1,x.2.2.2.2.2.1,x.2.2.2.2.2.2.1,x.2.2.2.2.2.2.2.1,x.2.2.2.2.2.2.2.2.1,x.2.2.2.2.2.2.2.2.2.1⟩
 | .b8,x=>⟨x.1,x.2.1,x.2.2.1,x.2.2.2.1,x.2.2.2.2.1,x.2.2.2.2.2.1,x.2.2.2.2.2.2.1,x.2.2.2.2.2.2.2.1,x.2.2.2.2.2.2.2.2.1,x.2.2.2.2.2.2.2.2.2.1,x.2.2.2.2.2.2.2.2.2.2.1,x.2.2.2.2.2.2.2.2.2.2.2.1⟩
 | .ab,x=>⟨x.1,x.2.1,x.2.2.1,x.2.2.2.1,x.2.2.2.2.1⟩
 | .ag,x=>⟨x.1,x.2.1,x.2.2.1,x.2.2.2.1,x.2.2.2.2.1,x.2.2.2.2.2.1,x.2.2.2.2.2.2.1⟩
 | .Result,x=>⟨x.1,x.2.1,x.2.2.1⟩
 | .Innings,x=>⟨x.1,x.2.1,x.2.2.1,x.2.2.2.1,x.2.2.2.2.1,x.2.2.2.2.2.1,x.2.2.2.2.2.2.1,x.2.2.2.2.2.2.2.1,x.2.2.2.2.2.2.2.2.1,x.2.2.2.2.2.2.2.2.2.1,x.2.2.2.2.2.2.2.2.2.2.1,x.2.2.2.2.2.2.2.2.2.2.2.1,x.2.2.2.2.2.2.2.2.2.2.2.2.1,x.2.2.2.2.2.2.2.2.2.2.2.2.2.1,x.2.2.2.2.2.2.2.2.2.2.2.2.2.2.1,x.2.2.2.2.2.2.2.2.2.2.2.2.2.2.2.1,x.2.2.2.2.2.2.2.2.2.2.2.2.2.2.2.2.1,x.2.2.2.2.2.2.2.2.2.2.2.2.2.2.2.2.2.1,x.2.2.2.2.2.2.2.2.2.2.2.2.2.2.2.2.2.2.1,x.2.2.2.2.2.2.2.2.2.2.2.2.2.2.2.2.2.2.2.1,x.2.2.2.2.2.2.2.2.2.2.2.2.2.2.2.2.2.2.2.2.1,x.2.2.2.2.2.2.2.2.2.2.2.2.2.2.2.2.2.2.2.2.2.1,x.2.2.2.2.2.2.2.2.2.2.2.2.2.2.2.2.2.2.2.2.2.2.1⟩
 | .Match,x=>⟨x.1,x.2.1,x.2.2.1,x.2.2.2.1,x.2.2.2.2.1,x.2.2.2.2.2.1,x.2.2.2.2.2.2.1⟩
 | .eU,x=>⟨x.1,x.2.1,x.2.2.1,x.2.2.2.1,x.2.2.2.2.1,x.2.2.2.2.2.1,x.2.2.2.2.2.2.1,x.2.2.2.2.2.2.2.1,x.2.2.2.2.2.2.2.2.1,x.2.2.2.2.2.2.2.2.2.1⟩
 | .cA,x=>⟨x.1,x.2.1,x.2.2.1,x.2.2.2.1,x.2.2.2.2.1,x.2.2.2.2.2.1,x.2.2.2.2.2.2.1,x.2.2.2.2.2.2.2.1,x.2.2.2.2.2.2.2.2.1,x.2.2.2.2.2.2.2.2.2.1,x.2.2.2.2.2.2.2.2.2.2.1,x.2.2.2.2.2.2.2.2.2.2.2.1⟩
 | .Score,x=>⟨x.1,x.2.1,x.2.2.1,x.2.2.2.1,x.2.2.2.2.1,x.2.2.2.2.2.1⟩
 | .Event,x=>⟨x.1,x.2.1,x.2.2.1,x.2.2.2.1,x.2.2.2.2.1,x.2.2.2.2.2.1,x.2.2.2.2.2.2.1,x.2.2.2.2.2.2.2.1⟩
 | .bW,x=>⟨x.1,x.2.1,x.2.2.1,x.2.2.2.1,x.2.2.2.2.1,x.2.2.2.2.2.1,x.2.2.2.2.2.2.1,x.2.2.2.2.2.2.2.1⟩
 | .ao,x=>⟨x.1,x.2.1,x.2.2.1,x.2.2.2.1,x.2.2.2.2.1,x.2.2.2.2.2.1,x.2.2.2.2.2.2.1⟩
 | .cH,x=>⟨x.1,x.2.1,x.2.2.1,x.2.2.2.1,x.2.2.2.2.1,x.2.2.2.2.2.1,x.2.2.2.2.2.2.1⟩
 | .cB,x=>⟨x.1,x.2.1,x.2.2.1,x.2.2.2.1⟩
 | .none_,_=>()
theorem Nm.UP :∀ (n:Nm) (x:n.T),n.of (n.to x)=x:=by intro n;cases n <;> intro x <;> rfl
theorem Nm.KD :∀ (n:Nm) (x:Den n.n7),n.to (n.of x)=x:=by intro n;cases n <;> intro x <;> rfl
def Nm.af :(n:Nm)->n.T
 | .Phase=>aa.Phase.zero
 | .aj=>aa.aj.zero
 | .an=>aa.an.zero
 | .aH=>aa.aH.zero
 | .ak=>aa.ak.zero
 | .ay=>aa.ay.zero
 | .ah=>aa.ah.zero
 | .aF=>aa.aF.zero
 | .b8=>aa.b8.zero
 | .ab=>aa.ab.zero
 | .ag=>aa.ag.zero
 | .Result=>aa.Result.zero
 | .Innings=>aa.Innings.zero
 | .Match=>aa.Match.zero
 | .eU=>aa.eU.zero
 | .cA=>aa.cA.zero
 | .Score=>aa.Score.zero
 | .Event=>aa.Event.zero
 | .bW=>aa.bW.zero
 | .ao=>aa.ao.zero
 | .cH=>aa.cH.zero
 | .cB=>aa.cB.zero
 | .none_=>()
def JL (o:Obj):Prop:=∃ T fr,o = .cells ((Lib.pow10Tab.map fun z=>Value.int .u64 z).toArray) T fr
def tY (o:Obj):Prop:=∃ te pe T fr,o = .cells #[.iface te pe] T fr
def W9 (o:Obj):Prop:=∃ m T fr,o = .cells #[.int .i64 m] T fr
def MU:Nat:=4294967295
def uTy:Nat:=5
def adW:Nat:=4294967295
def GL:List (Nat×(Obj->Prop)):= [(2,JL),(5,W9),(0,tY),(1,tY)]
end
section
open Go.RowKit
def ok (k:IntKind) (n:Int):Prop:=k.min<=n/\n<=k.max
def sz:Ty->Nat
 | .int _ | .bool | .str | .slice _=>1
 | .unit=>0
 | .prod a b=>sz a+sz b
 | .nm n=>n.size
theorem Nm.BF :∀ n:Nm,sz n.n7=n.size:=by intro n;cases n <;> rfl
def af :(t:Ty)->Den t
 | .int _=>(0:Int) | .bool=>false | .str=>ByteArray.empty | .unit=>()
 | .prod a b=>(af a,af b) | .slice _=> [] | .nm n=>n.af
inductive V where
 | any
 | int (k:IntKind) (n:Int)
 | bool (b:Bool)
 | kb (b:Bool)
 | hint (q p:Bool)
 | str (s:ByteArray)
 | nilptr
 | ptr (h off:Nat)
 | fp (t:Ty) (xs:List (Den t)) (i:Int) (off:Nat)
 | rp (h ver:Nat) (i:Int) (off:Nat)
 | nilsl
 | esl
 | osl (h ver:Nat)
 | fsl (t:Ty) (xs:List (Den t))
 | gsl (h ver esz off len:Nat)
 | gp (h ver off:Nat)
 | mpv (h:Nat)
 | av (k h:Nat)
 | nilfn
 | nilmap
 | fn (f:FuncId) (caps:List V)
 | agg (cs:List V)
 | tup (vs:List V)
inductive bd where
 | cells (cs:List V)
 | row (ver:Nat) (rw:Bool) (t:Ty) (xs:List (Den t))
 | grow (ver esz:Nat) (cs:List V)
 | mp (es:List (V×V))
 | abs (k:Nat) (t:Ty) (x:Den t)
def flat:Nat->(t:Ty)->Den t->List V
 | 0,t,_=>List.replicate (sz t) .any
 | _+1,.int k,n=> [.int k n]
 | _+1,.bool,b=> [.bool b]
 | _+1,.str,s=> [.str s]
 | _+1,.unit,_=> []
 | f+1,.prod a b,x=>flat f a x.1++flat f b x.2
 | _+1,.slice t,xs=> [.fsl t xs]
 | f+1,.nm n,x=>flat f n.n7 (n.to x)
def gb:Nat:=96
def aW:Nat:=140737488355328
def gR (c:Array Value) (o n:Nat):List Value:=(c.toList.drop o).take n
def sq (fr:Nat×Nat) (n:Nat):Prop:=∀ i,i<n->¬(fr.1<=i/\i<fr.2)
inductive Rd (S:Nat->Prop) (w:World) :(t:Ty)->Den t->List Value->Prop
 | int {k:IntKind} {n:Int}:ok k n->Rd S w (.int k) n [.int k n]
 | bool {b:Bool}:Rd S w .bool b [.bool b]
 | str {s:ByteArray}:s.size<=aW->Rd S w .str s [.string s]
 | unit:Rd S w .unit () []
 | prod {a b:Ty} {x:Den a} {y:Den b} {cs ds:List Value}:Rd S w a x cs->Rd S w b y ds->Rd S w (.prod a b) (x,y) (cs++ds)
 | nm {n:Nm} {x:n.T} {cs:List Value}:Rd S w n.n7 (n.to x) cs->Rd S w (.nm n) x cs
 | nil {t:Ty} {a:Option Addr} {cap:Nat}:Rd S w (.slice t) [] [.slice a 0 cap]
 | slice {t:Ty} {xs:List (Den t)} {b o cap:Nat} {c:Array Value} {T:TypeId} {fr:Nat×Nat} :
   S b->w.heap[b]?=some (.cells c T fr)->o+xs.length*sz t<=c.size->xs.length<=cap->xs.length<=aW->
   (∀ (i:Nat) (h:i<xs.length),Rd S w t xs[i] (gR c (o+i*sz t) (sz t)))->Rd S w (.slice t) xs [.slice (some ⟨b,o,none⟩) xs.length cap]
def lQ:Ty->Bool
 | .prod _ _ | .nm _ | .unit=>true
 | _=>false
def Flt (t:Ty) (x:Den t) (v:Value):Prop:=(∃ w:World,Rd (fun _=>False) w t x v.cells.toList)/\((lQ t=true/\∃ l,v = .agg l)\/(lQ t=false/\v.cells.toList=[v]))
def JE:Nat->Nat->Value
 | 0,b=> .pointer (some ⟨b,0,none⟩)
 | _,b=> .map (some b)
def ux (w:World) (b:Nat):Option Nat:=match w.heap[b]? with
 | some (.cells c _ _)=>(c.getD 1 undef).ownBlock
 | _=>none
def mM:Nat->World->Nat->Option Nat
 | 0,w,b=>ux w b
 | _,_,_=>none
def aap (w:World) (b k:Nat) {kt vt:Ty} (xs:List (Den kt×Den vt)):Prop:=∃ (l:Array MapEntry) (c:Nat),w.heap[b]?=some (.map l c)/\l.size=xs.length/\(k=1->c=l.size)/\
 ∀ (i:Nat) (h:i<xs.length) (e:MapEntry),l[i]?=some e->(k=1->e.born=i)/\Flt kt xs[i].1 e.key/\Flt vt xs[i].2 e.val
structure AbsD where
 t:Ty
 x:Den t
def Ei (w:World) (b k:Nat) (t:Ty) (x:Den t):Prop:=
 (k=0/\∃ s:ByteArray,AbsD.mk t x=AbsD.mk .str s/\s.size<=aW/\Lib.IsBuilderF MU uTy 0 b (Lib.strCells s) w)\/
 (1<=k/\∃ (kt vt:Ty) (xs:List (Den kt×Den vt)),AbsD.mk t x=AbsD.mk (.slice (.prod kt vt)) xs/\aap w b k xs)
structure Env where
 U:Nat->Prop
 ρ:Nat->Option Nat
 S:Nat->Prop
 w:World
 H:Nat->Option bd
def fnB:List Value->Array Value×Array Value
 | .map none::r=>(r.toArray,#[])
 | l=>(#[],l.toArray)
def fnV (f:FuncId) (l:Array Value):Value:= .func (.func f) (fnB l.toList).1 (fnB l.toList).2
mutual
def ae (E:Env):V->Value->Prop
 | .any,_=>True
 | .int k n,v=>v = .int k n/\ok k n
 | .bool b,v=>v = .bool b
 | .kb b,v=>v = .bool b
 | .hint q p,v=>∃ b,v = .bool b/\(b=p->q=true)
 | .str s,v=>v = .string s/\s.size<=aW
 | .nilptr,v=>v = .pointer none
 | .ptr h off,v=>E.U h/\(∃ a,v = .pointer (some a))/\∀ cs,E.H h=some (.cells cs)->∃ b,E.ρ h=some b/\v = .pointer (some ⟨b,off,none⟩)
 | .fp t xs i off,v=>∃ b o c T fr,E.S b/\E.w.heap[b]?=some (.cells c T fr)/\o+xs.length*sz t<=c.size/\
   (∀ (j:Nat) (h:j<xs.length),Rd E.S E.w t xs[j] (gR c (o+j*sz t) (sz t)))/\0<=i/\i.toNat<xs.length/\v = .pointer (some ⟨b,o+i.toNat*sz t+off,none⟩)
 | .rp h ver i off,v=>E.U h/\E.U ver/\(∃ a,v = .pointer (some a))/\∀ rw t xs,E.H h=some (.row ver rw t xs)->∃ b,E.ρ h=some b/\0<=i/\i.toNat<xs.length/\v = .pointer (some ⟨b,i.toNat*sz t+off,none⟩)
 | .nilsl,v=>v = .slice none 0 0
 | .esl,v=>∃ a,v = .slice a 0 0
 | .osl h ver,v=>E.U h/\E.U ver/\(∃ a l c,v = .slice a l c)/\∀ rw t xs,E.H h=some (.row ver rw t xs)->
   (E.ρ h=none/\∃ a,v = .slice a 0 0)\/∃ b cap c T fr,E.ρ h=some b/\v = .slice (some ⟨b,0,none⟩) xs.length cap/\E.w.heap[b]?=some (.cells c T fr)/\c.size=cap*sz t/\xs.length<=cap
 | .fsl t xs,v=>Rd E.S E.w (.slice t) xs [v]
 | .gsl h ver esz off len,v=>E.U h/\E.U ver/\(∃ a l c,v = .slice (some a) l c)/\∀ cs,E.H h=some (.grow ver esz cs)->
   ∃ b cap c T fr,E.ρ h=some b/\v = .slice (some ⟨b,off*esz,none⟩) len cap/\E.w.heap[b]?=some (.cells c T fr)/\(off+cap)*esz<=c.size/\len<=cap/\(off+len)*esz<=cs.length
 | .gp h ver off,v=>E.U h/\E.U ver/\(∃ a,v = .pointer (some a))/\∀ esz cs,E.H h=some (.grow ver esz cs)->∃ b,E.ρ h=some b/\v = .pointer (some ⟨b,off,none⟩)
 | .mpv h,v=>E.U h/\(∃ r,v = .map (some r))/\∀ es,E.H h=some (.mp es)->∃ b,E.ρ h=some b/\v = .map (some b)
 | .av k h,v=>E.U h/\(∃ b,v=JE k b)/\∀ t x,E.H h=some (.abs k t x)->∃ b,E.ρ h=some b/\v=JE k b
 | .nilfn,v=>v = .nilFunc
 | .nilmap,v=>v = .map none
 | .fn f caps,v=>∃ l,v=fnV f l/\ai E caps l.toList
 | .agg cs,v=>∃ l,v = .agg l/\ai E cs l.toList
 | .tup vs,v=>∃ l,v = .tuple l/\ai E vs l.toList
def ai (E:Env):List V->List Value->Prop
 | [],[]=>True
 | x::xs,v::vs=>ae E x v/\ai E xs vs
 | _,_=>False
end
def qg (E:Env):Nat->List (V×V)->List MapEntry->Prop
 | _,[],[]=>True
 | i,x::xs,e::es=>(ae E x.1 e.key/\ae E x.2 e.val/\e.born=i)/\qg E (i+1) xs es
 | _,_,_=>False
def Ho (E:Env) (h:Nat):bd->Prop
 | .cells cs=>∃ b c T fr,E.ρ h=some b/\E.w.heap[b]?=some (.cells c T fr)/\sq fr c.size/\¬ E.S b/\ai E cs c.toList
 | .row ver rw t xs=>E.U ver/\((E.ρ h=none/\xs=[])\/
   ∃ b c T fr,E.ρ h=some b/\E.w.heap[b]?=some (.cells c T fr)/\sq fr c.size/\(rw=true->¬ E.S b)/\(rw=false->E.S b)/\
    xs.length*sz t<=c.size/\xs.length<=aW/\∀ (i:Nat) (hi:i<xs.length),Rd E.S E.w t xs[i] (gR c (i*sz t) (sz t)))
 | .grow ver _ cs=>E.U ver/\∃ b c T fr,E.ρ h=some b/\E.w.heap[b]?=some (.cells c T fr)/\sq fr c.size/\¬ E.S b/\ai E cs (c.toList.take cs.length)
 | .mp es=>∃ b l k,E.ρ h=some b/\E.w.heap[b]?=some (.map l k)/\¬ E.S b/\qg E 0 es l.toList/\k=l.size
 | .abs k t x=>∃ b,E.ρ h=some b/\¬ E.S b/\(∀ g,mM k E.w b=some g->¬ E.S g)/\Ei E.w b k t x
def uy (w:World):bd->Nat->Option Nat
 | .abs k _ _,b=>mM k w b
 | _,_=>none
def fJ (E:Env) (h:Nat) (k:bd) (b:Nat):Prop:=E.ρ h=some b\/∃ b0,E.ρ h=some b0/\uy E.w k b0=some b
def bd.Fh:bd->Bool
 | .abs _ _ _=>true
 | _=>false
structure Ext (E E':Env):Prop where
 u :∀ n,E.U n->E'.U n
 s :∀ b,E.S b->E'.S b
 keepS :∀ b,E.S b->E'.w.heap[b]?=E.w.heap[b]?
 hc :∀ h cs',E.U h->E'.H h=some (.cells cs')->(∃ cs,E.H h=some (.cells cs))/\E'.ρ h=E.ρ h
 hr :∀ h ver rw' t' xs',E.U h->E.U ver->E'.H h=some (.row ver rw' t' xs')->∃ rw xs,E.H h=some (.row ver rw t' xs)/\xs.length=xs'.length/\E'.ρ h=E.ρ h/\
  (∀ b c T fr,E.ρ h=some b->E.w.heap[b]?=some (.cells c T fr)->∃ c' T' fr',E'.w.heap[b]?=some (.cells c' T' fr')/\c'.size=c.size)
 hg :∀ h ver esz cs',E.U h->E.U ver->E'.H h=some (.grow ver esz cs')->∃ cs,E.H h=some (.grow ver esz cs)/\cs.length=cs'.length/\E'.ρ h=E.ρ h/\
  (∀ b c T fr,E.ρ h=some b->E.w.heap[b]?=some (.cells c T fr)->∃ c' T' fr',E'.w.heap[b]?=some (.cells c' T' fr')/\c'.size=c.size)
 hm :∀ h es',E.U h->E'.H h=some (.mp es')->(∃ es,E.H h=some (.mp es))/\E'.ρ h=E.ρ h
 ha :∀ h k t x',E.U h->E'.H h=some (.abs k t x')->(∃ x,E.H h=some (.abs k t x))/\E'.ρ h=E.ρ h
def qG (w:World) (F:Nat->Prop):Prop:=∀ p∈GL,(∃ o,w.heap[p.1]?=some o/\p.2 o)/\¬ F p.1
structure aK where
 w0:World
 F:Nat->Prop
 S0:Nat->Prop
 G:Env->Prop
 clo :∀ E E',G E->Ext E E'->G E'
 glb:qG w0 F
 dfs:List Deferred
def Eu (w:World) (F S:Nat->Prop) (g:qG w F):aK:=⟨w,F,S,fun _=>True,fun _ _ _ _=>trivial,g,[]⟩
structure dA (w0:World) (F:Nat->Prop) (w:World):Prop where
 os:w.os=w0.os
 tape:w.tape=w0.tape
 output:w.output=w0.output
 size:w0.heap.size<=w.heap.size
 block :∀ b,b<w0.heap.size->¬ F b->w.heap[b]?=w0.heap[b]?
def wr:bd->Bool
 | .row _ rw _ _=>rw
 | _=>true
structure aM (B:aK) (E:Env):Prop where
 used :∀ h b,E.H h=some b->E.U h
 stab :∀ b,E.S b->b<E.w.heap.size
 lt' :∀ h k b,E.H h=some k->fJ E h k b->b<E.w.heap.size
 inj' :∀ h h' k k' b,E.H h=some k->E.H h'=some k'->fJ E h k b->fJ E h' k' b->h=h'
 blk :∀ h k,E.H h=some k->Ho E h k
 keeps:dA B.w0 B.F E.w
 own' :∀ h k b,E.H h=some k->fJ E h k b->B.F b\/B.w0.heap.size<=b
 s0 :∀ b,B.S0 b->E.S b
 sb :∀ b,E.S b->B.S0 b\/B.F b\/B.w0.heap.size<=b
theorem aM.lt {B:aK} {E:Env} (hE:aM B E) (h:Nat) (k:bd) (b:Nat) (h1:E.H h=some k) (h2:E.ρ h=some b):b<E.w.heap.size:=hE.lt' h k b h1 (.inl h2)
theorem aM.inj {B:aK} {E:Env} (hE:aM B E) (h h':Nat) (k k':bd) (b:Nat) (h1:E.H h=some k) (h2:E.H h'=some k') (h3:E.ρ h=some b) (h4:E.ρ h'=some b):h=h':=hE.inj' h h' k k' b h1 h2 (.inl h3) (.inl h4)
theorem aM.own {B:aK} {E:Env} (hE:aM B E) (h:Nat) (k:bd) (b:Nat) (h1:E.H h=some k) (h2:E.ρ h=some b):B.F b\/B.w0.heap.size<=b:=hE.own' h k b h1 (.inl h2)
theorem aM.R7 {B:aK} {E:Env} (hE:aM B E) {F:Nat->Prop} (hF :∀ b,F b->∃ h k,E.H h=some k/\fJ E h k b):qG E.w F:=fun p hp=>by
 obtain ⟨⟨o,h1,h0⟩,h2⟩:=B.glb p hp
 have hlt:p.1<B.w0.heap.size:=by
  rcases Nat.lt_or_ge p.1 B.w0.heap.size with h|h
  ·exact h
  ·rw [Array.getElem?_eq_none h] at h1;cases h1
 refine ⟨⟨o,by rw [hE.keeps.block p.1 hlt h2];exact h1,h0⟩,fun hf=>?_⟩;obtain ⟨h,k,hk,hb⟩:=hF _ hf;rcases hE.own' h k p.1 hk hb with h3|h3
 ·exact h2 h3
 ·omega
theorem aM.JD {B:aK} {E:Env} (hE:aM B E):qG E.w fun _=>False:=hE.R7 fun _ h=>h.elim
def find {α:Type}:List (Nat×α)->Nat->Option α
 | [],_=>none
 |(k,v)::r,i=>bif Nat.beq k i then some v else find r i
end
section
open Go.RowKit
theorem Rd.ext {S S':Nat->Prop} {w w':World} (hs :∀ b,S b->S' b) (hw :∀ b,S b->w'.heap[b]?=w.heap[b]?) {t:Ty} {x:Den t} {cs:List Value} (h:Rd S w t x cs):Rd S' w' t x cs:=by
 induction h with
 | int h=>exact .int h
 | bool=>exact .bool
 | str h=>exact .str h
 | unit=>exact .unit
 | prod _ _ ih1 ih2=>exact .prod ih1 ih2
 | nm _ ih=>exact .nm ih
 | nil=>exact .nil
 | slice h1 h2 h3 h4 h5 _ ih=>exact .slice (hs _ h1) (by rw [hw _ h1];exact h2) h3 h4 h5 ih
theorem Rd.len {S:Nat->Prop} {w:World} {t:Ty} {x:Den t} {cs:List Value} (h:Rd S w t x cs):cs.length=sz t:=by
 induction h with
 | int h=>rfl
 | bool=>rfl
 | str=>rfl
 | unit=>rfl
 | prod _ _ ih1 ih2=>simp [sz,ih1,ih2]
 | @nm n _ _ _ ih=>simp [sz,ih,n.BF]
 | nil=>rfl
 | slice=>rfl
mutual
theorem ca {E E':Env} (hE:Ext E E') :∀ (x:V) (v:Value),ae E x v->ae E' x v
 | .any,_,_=>by simp [ae]
 | .int _ _,_,h=>by simpa [ae] using h
 | .bool _,_,h=>by simpa [ae] using h
 | .kb _,_,h=>by simpa [ae] using h
 | .hint _ _,_,h=>by simpa [ae] using h
 | .str _,_,h=>by simpa [ae] using h
 | .nilptr,_,h=>by simpa [ae] using h
 | .ptr hh off,v,h=>by simp only [ae] at h ⊢;refine ⟨hE.u _ h.1,h.2.1,fun cs hcs=>?_⟩;obtain ⟨⟨cs0,h0⟩,h1⟩:=hE.hc _ _ h.1 hcs;obtain ⟨b,hb,hv⟩:=h.2.2 _ h0;exact ⟨b,by rw [h1];exact hb,hv⟩
 | .fp t xs i off,v,h=>by simp only [ae] at h ⊢;obtain ⟨b,o,c,T,fr,h1,h2,h3,h4,h5,h6,h7⟩:=h;exact ⟨b,o,c,T,fr,hE.s _ h1,by rw [hE.keepS _ h1];exact h2,h3,fun j hj=>(h4 j hj).ext hE.s hE.keepS,h5,h6,h7⟩
 | .rp hh ver i off,v,h=>by simp only [ae] at h ⊢;refine ⟨hE.u _ h.1,hE.u _ h.2.1,h.2.2.1,fun rw t xs hcs=>?_⟩;obtain ⟨rw0,xs0,h0,h1,h2,_⟩:=hE.hr _ _ _ _ _ h.1 h.2.1 hcs;obtain ⟨b,hb,hi,hl,hv⟩:=h.2.2.2 _ _ _ h0;exact ⟨b,by rw [h2];exact hb,hi,by omega,hv⟩
 | .nilsl,_,h=>by simpa [ae] using h
 | .esl,_,h=>by simpa [ae] using h
 | .osl hh ver,v,h=>by
  simp only [ae] at h ⊢;refine ⟨hE.u _ h.1,hE.u _ h.2.1,h.2.2.1,fun rw t xs hcs=>?_⟩;obtain ⟨rw0,xs0,h0,h1,h2,h3⟩:=hE.hr _ _ _ _ _ h.1 h.2.1 hcs;rcases h.2.2.2 _ _ _ h0 with ⟨hb,hv⟩ |⟨b,cap,c,T,fr,hb,hv,hw,hs,hcap⟩
  ·exact .inl ⟨by rw [h2];exact hb,hv⟩
  ·obtain ⟨c',T',fr',hw',hs'⟩:=h3 _ _ _ _ hb hw;exact .inr ⟨b,cap,c',T',fr',by rw [h2];exact hb,by rw [<-h1];exact hv,hw',by rw [hs'];exact hs,by rw [<-h1];exact hcap⟩
 | .fsl t xs,v,h=>by simp only [ae] at h ⊢;exact h.ext hE.s hE.keepS
 | .gsl hh ver esz off len,v,h=>by simp only [ae] at h ⊢;refine ⟨hE.u _ h.1,hE.u _ h.2.1,h.2.2.1,fun cs hcs=>?_⟩;obtain ⟨cs0,h0,h1,h2,h3⟩:=hE.hg _ _ _ _ h.1 h.2.1 hcs;obtain ⟨b,cap,c,T,fr,hb,hv,hw,hs,hcap,hl⟩:=h.2.2.2 _ h0;obtain ⟨c',T',fr',hw',hs'⟩:=h3 _ _ _ _ hb hw;exact ⟨b,cap,c',T',fr',by rw [h2];exact hb,hv,hw',by rw [hs'];exact hs,hcap,by rw [<-h1];exact hl⟩
 | .gp hh ver off,v,h=>by simp only [ae] at h ⊢;refine ⟨hE.u _ h.1,hE.u _ h.2.1,h.2.2.1,fun esz cs hcs=>?_⟩;obtain ⟨cs0,h0,h1,h2,h3⟩:=hE.hg _ _ _ _ h.1 h.2.1 hcs;obtain ⟨b,hb,hv⟩:=h.2.2.2 _ _ h0;exact ⟨b,by rw [h2];exact hb,hv⟩
 | .mpv hh,v,h=>by simp only [ae] at h ⊢;refine ⟨hE.u _ h.1,h.2.1,fun es hes=>?_⟩;obtain ⟨⟨es0,h0⟩,h1⟩:=hE.hm _ _ h.1 hes;obtain ⟨b,hb,hv⟩:=h.2.2 _ h0;exact ⟨b,by rw [h1];exact hb,hv⟩
 | .av k hh,v,h=>by simp only [ae] at h ⊢;refine ⟨hE.u _ h.1,h.2.1,fun t x hx=>?_⟩;obtain ⟨⟨x0,h0⟩,h1⟩:=hE.ha _ _ _ _ h.1 hx;obtain ⟨b,hb,hv⟩:=h.2.2 _ _ h0;exact ⟨b,by rw [h1];exact hb,hv⟩
 | .nilfn,_,h=>by simpa [ae] using h
 | .nilmap,_,h=>by simpa [ae] using h
 | .fn f caps,v,h=>by simp only [ae] at h ⊢;obtain ⟨l,h1,h2⟩:=h;exact ⟨l,h1,bD hE _ _ h2⟩
 | .agg cs,v,h=>by simp only [ae] at h ⊢;obtain ⟨l,h1,h2⟩:=h;exact ⟨l,h1,bD hE _ _ h2⟩
 | .tup cs,v,h=>by simp only [ae] at h ⊢;obtain ⟨l,h1,h2⟩:=h;exact ⟨l,h1,bD hE _ _ h2⟩
theorem bD {E E':Env} (hE:Ext E E') :∀ (xs:List V) (vs:List Value),ai E xs vs->ai E' xs vs
 | [],[],_=>by simp [ai]
 | _::_,[],h=>by simp [ai] at h
 | [],_::_,h=>by simp [ai] at h
 | x::xs,v::vs,h=>by simp only [ai] at h ⊢;exact ⟨ca hE x v h.1,bD hE xs vs h.2⟩
end
theorem zG {E E':Env} (hE:Ext E E') :∀ (i:Nat) (xs:List (V×V)) (es:List MapEntry),qg E i xs es->qg E' i xs es
 | _,[],[],_=>trivial
 | _,_::_,[],h=>by simp [qg] at h
 | _,[],_::_,h=>by simp [qg] at h
 | i,x::xs,e::es,h=>⟨⟨ca hE _ _ h.1.1,ca hE _ _ h.1.2.1,h.1.2.2⟩,zG hE (i+1) xs es h.2⟩
theorem bk {E:Env} :∀ {xs:List V} {vs:List Value},ai E xs vs->xs.length=vs.length
 | [],[],_=>rfl
 | _::_,[],h=>by simp [ai] at h
 | [],_::_,h=>by simp [ai] at h
 | x::xs,v::vs,h=>by simp only [ai] at h;simp [bk h.2]
theorem cj {E:Env} :∀ {xs ys:List V} {vs us:List Value},ai E xs vs->ai E ys us->ai E (xs++ys) (vs++us)
 | [],_,[],_,_,h=>h
 | _::_,_,[],_,h,_=>by simp [ai] at h
 | [],_,_::_,_,h,_=>by simp [ai] at h
 | x::xs,ys,v::vs,us,h,h'=>by simp only [ai,List.cons_append] at h ⊢;exact ⟨h.1,cj h.2 h'⟩
theorem eQ {E:Env} :∀ {xs:List V} {vs:List Value},ai E xs vs->∀ (i:Nat) (x:V),xs[i]?=some x->∃ v,vs[i]?=some v/\ae E x v
 | [],[],_,i,x,hx=>by simp at hx
 | _::_,[],h,_,_,_=>by simp [ai] at h
 | [],_::_,h,_,_,_=>by simp [ai] at h
 | y::ys,u::us,h,i,x,hx=>by
  simp only [ai] at h
  cases i with
  | zero=>simp at hx;subst hx;exact ⟨u,by simp,h.1⟩
  | succ i=>simp at hx;obtain ⟨v,h1,h2⟩:=eQ h.2 i x hx;exact ⟨v,by simpa using h1,h2⟩
theorem iL {E:Env} :∀ {xs:List V} {vs:List Value},ai E xs vs->∀ n,ai E (xs.drop n) (vs.drop n)
 | xs,vs,h,0=>by simpa using h
 | [],[],h,n+1=>by simp [ai]
 | _::_,[],h,_+1=>by simp [ai] at h
 | [],_::_,h,_+1=>by simp [ai] at h
 | _::xs,_::vs,h,n+1=>by simp only [ai] at h;simpa using iL h.2 n
theorem kK {E:Env} :∀ {xs:List V} {vs:List Value},ai E xs vs->∀ n,ai E (xs.take n) (vs.take n)
 | xs,vs,h,0=>by simp [ai]
 | [],[],h,n+1=>by simp [ai]
 | _::_,[],h,_+1=>by simp [ai] at h
 | [],_::_,h,_+1=>by simp [ai] at h
 | _::xs,_::vs,h,n+1=>by simp only [ai] at h;simp only [List.take_succ_cons,ai];exact ⟨h.1,kK h.2 n⟩
theorem fZ {E:Env} :∀ {vs:List Value} (n:Nat),vs.length=n->ai E (List.replicate n .any) vs
 | [],0,_=>by simp [ai]
 | v::vs,n+1,h=>by simp only [List.replicate_succ,ai,ae,true_and];exact fZ n (by simpa using h)
 | [],_+1,h=>by simp at h
 | _::_,0,h=>by simp at h
theorem Rd.flat {E:Env} :∀ (f:Nat) {t:Ty} {x:Den t} {cs:List Value},Rd E.S E.w t x cs->ai E (flat f t x) cs
 | 0,t,x,cs,h=>by
  have:=h.len
  unfold aa.flat;exact fZ _ this
 | f+1,.int k,n,cs,h=>by cases h with|int h=>simp [aa.flat,ai,ae,h]
 | f+1,.bool,n,cs,h=>by cases h with|bool=>simp [aa.flat,ai,ae]
 | f+1,.str,n,cs,h=>by cases h with|str h=>simp [aa.flat,ai,ae,h]
 | f+1,.unit,n,cs,h=>by cases h with|unit=>simp [aa.flat,ai]
 | f+1,.prod a b,x,cs,h=>by cases h with|prod h1 h2=>exact cj (Rd.flat f h1) (Rd.flat f h2)
 | f+1,.slice t,xs,cs,h=>by
  have hl:=h.len;simp only [sz] at hl
  match cs,hl with
  | [c],_=>simp only [aa.flat,ai,ae,and_true];exact h
 | f+1,.nm n,x,cs,h=>by cases h with|nm h=>exact Rd.flat f h
def nY {α:Type} (f:Nat->α) (n:Nat) (v:α):Nat->α:=fun m=>if m=n then v else f m
theorem aE {α:Type} (f:Nat->α) (n:Nat) (v:α):nY f n v n=v:=by simp [nY]
theorem bL {α:Type} (f:Nat->α) {n m:Nat} (v:α) (h:m≠n):nY f n v m=f m:=by simp [nY,h]
theorem KZ {w w':World} {b:Nat} (h:w'.heap[b]?=w.heap[b]?):ux w' b=ux w b:=by unfold ux;rw [h]
theorem vP {w w':World} {k b:Nat} (h:w'.heap[b]?=w.heap[b]?):mM k w' b=mM k w b:=by
 unfold mM;split
 ·exact KZ h
 ·rfl
theorem K0 {w w':World} {k:bd} {b:Nat} (h:w'.heap[b]?=w.heap[b]?):uy w' k b=uy w k b:=by cases k <;> first|rfl|exact vP h
theorem fJ.of {E:Env} {h:Nat} {k:bd} {b:Nat} (hk:k.Fh=false) (ht:fJ E h k b):E.ρ h=some b:=by
 rcases ht with h1 |⟨b0,_,h2⟩
 ·exact h1
 ·cases k <;> first |(simp [uy] at h2;done)|cases hk
theorem fJ.mv {E E':Env} {h h':Nat} {k:bd} {b:Nat} (hρ:E'.ρ h'=E.ρ h) (hw :∀ b,E.ρ h=some b->E'.w.heap[b]?=E.w.heap[b]?) (ht:fJ E' h' k b):fJ E h k b:=by
 rcases ht with h1 |⟨b0,h1,h2⟩
 ·exact .inl (by rw [<-hρ];exact h1)
 ·rw [hρ] at h1;exact .inr ⟨b0,h1,by rw [<-K0 (hw _ h1)];exact h2⟩
theorem Ei.ext {w w':World} {b k:Nat} {t:Ty} {x:Den t} (h:Ei w b k t x) (hb:w'.heap[b]?=w.heap[b]?) (hg :∀ g,mM k w b=some g->w'.heap[g]?=w.heap[g]?):Ei w' b k t x:=by
 rcases h with ⟨rfl,s,e,hz,h⟩ |⟨hk,kt,vt,xs,e,h⟩
 ·cases e;refine .inl ⟨rfl,s,rfl,hz,?_⟩
  have key :∀ p,Lib.BuilderAtF MU uTy 0 b p (Lib.strCells s) w->Lib.BuilderAtF MU uTy 0 b p (Lib.strCells s) w':=fun p ⟨h1,v,h2,h3,h4⟩=>by
   refine ⟨h1,v,by rw [hb];exact h2,⟨h3.1,?_⟩,h4⟩;rcases h3.2 with h5 |⟨g,cap,cur,fz,rfl,h6,h7,h8⟩
   ·exact .inl h5
   ·refine .inr ⟨g,cap,cur,fz,rfl,h6,?_,h8⟩;rw [hg g (by simp [mM,ux,h2,Value.ownBlock])];exact h7
  exact h.imp (key _) (key _)
 ·cases e;obtain ⟨l,c,h2,h3⟩:=h;exact .inr ⟨hk,kt,vt,xs,rfl,l,c,by rw [hb];exact h2,h3⟩
theorem di {E E':Env} (hE:Ext E E') {h:Nat} {k:bd} (hρ:E'.ρ h=E.ρ h) (hb :∀ b,fJ E h k b->E'.w.heap[b]?=E.w.heap[b]?)
  (hS :∀ b,fJ E h k b->wr k=true->¬ E.S b->¬ E'.S b) (hk:Ho E h k):Ho E' h k:=by
 have hb':=hb;have hS':=hS
 replace hb :∀ b,E.ρ h=some b->E'.w.heap[b]?=E.w.heap[b]?:=fun b h1=>hb b (.inl h1)
 replace hS :∀ b,E.ρ h=some b->wr k=true->¬ E.S b->¬ E'.S b:=fun b h1=>hS b (.inl h1)
 cases k with
 | cells cs=>obtain ⟨b,c,T,fr,h1,h2,h3,h4,h5⟩:=hk;exact ⟨b,c,T,fr,by rw [hρ];exact h1,by rw [hb _ h1];exact h2,h3,hS _ h1 rfl h4,bD hE _ _ h5⟩
 | row ver rw t xs=>
  obtain ⟨hu,hk⟩:=hk;refine ⟨hE.u _ hu,?_⟩;rcases hk with ⟨h1,h2⟩ |⟨b,c,T,fr,h1,h2,h3,h4,h5,h6,h7,h8⟩
  ·exact .inl ⟨by rw [hρ];exact h1,h2⟩
  ·exact .inr ⟨b,c,T,fr,by rw [hρ];exact h1,by rw [hb _ h1];exact h2,h3,fun e=>hS _ h1 e (h4 e),fun e=>hE.s _ (h5 e),h6,h7,fun i hi=>(h8 i hi).ext hE.s hE.keepS⟩
 | grow ver esz cs=>obtain ⟨hu,b,c,T,fr,h1,h2,h3,h4,h5⟩:=hk;exact ⟨hE.u _ hu,b,c,T,fr,by rw [hρ];exact h1,by rw [hb _ h1];exact h2,h3,hS _ h1 rfl h4,bD hE _ _ h5⟩
 | mp es=>obtain ⟨b,l,k,h1,h2,h3,h4,h5⟩:=hk;exact ⟨b,l,k,by rw [hρ];exact h1,by rw [hb _ h1];exact h2,hS _ h1 rfl h3,zG hE _ _ _ h4,h5⟩
 | abs k t x=>obtain ⟨b,h1,h2,h3,h4⟩:=hk;have hg :∀ g,mM k E.w b=some g->fJ E h (.abs k t x) g:=fun g hg=> .inr ⟨b,h1,hg⟩;refine ⟨b,by rw [hρ];exact h1,hS _ h1 rfl h2,fun g hg'=>?_,h4.ext (hb _ h1) fun g hg'=>hb' g (hg g hg')⟩;rw [vP (hb _ h1)] at hg';exact hS' g (hg g hg') rfl (h3 g hg')
theorem dA.refl (w:World) (F:Nat->Prop):dA w F w:=⟨rfl,rfl,rfl,Nat.le_refl _,fun _ _ _=>rfl⟩
theorem dA.trans {w0 w w':World} {F G:Nat->Prop} (h:dA w0 F w) (h':dA w G w') (hG :∀ b,G b->F b\/w0.heap.size<=b):dA w0 F w':=
 ⟨h'.os.trans h.os,h'.tape.trans h.tape,h'.output.trans h.output,Nat.le_trans h.size h'.size,fun b hb hf=>by rw [h'.block b (Nat.lt_of_lt_of_le hb h.size) (fun hg=>by rcases hG b hg with h1|h1;exact hf h1;omega),h.block b hb hf]⟩
theorem nX {B:aK} {E:Env} (hE:aM B E) (h0:Nat) (k':bd) (r':Option Nat) (w':World) (U':Nat->Prop)
  (hU :∀ n,E.U n->U' n) (hU0:U' h0)
  (hk:dA E.w (fun b=>r'=some b) w')
  (hr :∀ b,r'=some b->(E.w.heap.size<=b/\b<w'.heap.size)\/(E.ρ h0=some b/\∃ k,E.H h0=some k/\wr k=true))
  (hS :∀ b,r'=some b->¬ E.S b)
  (hc :∀ cs',k' = .cells cs'->E.U h0->(∃ cs,E.H h0=some (.cells cs))/\r'=E.ρ h0)
  (hrow :∀ ver rw t xs',k' = .row ver rw t xs'->E.U h0->E.U ver->∃ rw xs,E.H h0=some (.row ver rw t xs)/\xs.length=xs'.length/\r'=E.ρ h0/\
   (∀ b c T fr,E.ρ h0=some b->E.w.heap[b]?=some (.cells c T fr)->∃ c' T' fr',w'.heap[b]?=some (.cells c' T' fr')/\c'.size=c.size))
  (hb:Ext E ⟨U',nY E.ρ h0 r',E.S,w',nY E.H h0 (some k')⟩->Ho ⟨U',nY E.ρ h0 r',E.S,w',nY E.H h0 (some k')⟩ h0 k')
  (hgr :∀ ver esz cs',k' = .grow ver esz cs'->E.U h0->E.U ver->∃ cs,E.H h0=some (.grow ver esz cs)/\cs.length=cs'.length/\r'=E.ρ h0/\
   (∀ b c T fr,E.ρ h0=some b->E.w.heap[b]?=some (.cells c T fr)->∃ c' T' fr',w'.heap[b]?=some (.cells c' T' fr')/\c'.size=c.size):=by intro _ _ _ e;cases e)
  (hmp :∀ es',k' = .mp es'->E.U h0->(∃ es,E.H h0=some (.mp es))/\r'=E.ρ h0:=by intro _ e;cases e)
  (hna:k'.Fh=false:=by rfl) :
  aM B ⟨U',nY E.ρ h0 r',E.S,w',nY E.H h0 (some k')⟩/\Ext E ⟨U',nY E.ρ h0 r',E.S,w',nY E.H h0 (some k')⟩:=by
 have keep' :∀ h k b,h≠h0->E.H h=some k->fJ E h k b->w'.heap[b]?=E.w.heap[b]?:=fun h k b hne hh hb'=>by
  have hlt:=hE.lt' h k b hh hb';refine hk.block b hlt fun e=>?_;rcases hr b e with h1 |⟨h1,k1,h2,_⟩
  ·omega
  ·exact hne (hE.inj' h h0 k k1 b hh h2 hb' (.inl h1))
 have keep :∀ h k b,h≠h0->E.H h=some k->E.ρ h=some b->w'.heap[b]?=E.w.heap[b]?:=fun h k b hne hh hb'=>keep' h k b hne hh (.inl hb');have keepS :∀ b,E.S b->w'.heap[b]?=E.w.heap[b]?:=fun b hs=>hk.block b (hE.stab b hs) fun e=>hS b e hs
 have X:Ext E ⟨U',nY E.ρ h0 r',E.S,w',nY E.H h0 (some k')⟩:=by
  refine ⟨hU,fun _ h=>h,keepS,fun h cs' hu hh=>?_,fun h ver rw' t' xs' hu hv hh=>?_,fun h ver esz cs' hu hv hh=>?_,fun h es' hu hh=>?_,fun h kk t x' hu hh=>?_⟩
  case refine_5=>
   by_cases e:h=h0
   ·subst e;simp only [aE,Option.some.injEq] at hh;rw [hh] at hna;cases hna
   ·simp only [bL _ _ e] at hh ⊢;exact ⟨⟨x',hh⟩,trivial⟩
  ·by_cases e:h=h0
   ·subst e;simp only [aE,Option.some.injEq] at hh ⊢;exact hc cs' hh hu
   ·simp only [bL _ _ e] at hh ⊢;exact ⟨⟨cs',hh⟩,trivial⟩
  ·by_cases e:h=h0
   ·subst e;simp only [aE,Option.some.injEq] at hh ⊢;obtain ⟨rw,xs,h1,h2,h3,h4⟩:=hrow ver rw' t' xs' hh hu hv;exact ⟨rw,xs,h1,h2,h3,h4⟩
   ·simp only [bL _ _ e] at hh ⊢;exact ⟨rw',xs',hh,rfl,trivial,fun b c T fr hb' hw=>⟨c,T,fr,by rw [keep h _ b e hh hb'];exact hw,rfl⟩⟩
  ·by_cases e:h=h0
   ·subst e;simp only [aE,Option.some.injEq] at hh ⊢;exact hgr ver esz cs' hh hu hv
   ·simp only [bL _ _ e] at hh ⊢;exact ⟨cs',hh,rfl,trivial,fun b c T fr hb' hw=>⟨c,T,fr,by rw [keep h _ b e hh hb'];exact hw,rfl⟩⟩
  ·by_cases e:h=h0
   ·subst e;simp only [aE,Option.some.injEq] at hh ⊢;exact hmp es' hh hu
   ·simp only [bL _ _ e] at hh ⊢;exact ⟨⟨es',hh⟩,trivial⟩
 refine ⟨?_,X⟩;have tn :∀ h k b,h≠h0->E.H h=some k->fJ ⟨U',nY E.ρ h0 r',E.S,w',nY E.H h0 (some k')⟩ h k b->fJ E h k b:=fun h k b hne hh ht=>ht.mv (bL _ _ hne) fun b' hb'=>keep h k b' hne hh hb'
 have t0 :∀ b,fJ ⟨U',nY E.ρ h0 r',E.S,w',nY E.H h0 (some k')⟩ h0 k' b->r'=some b:=fun b ht=>by
  have h1:nY E.ρ h0 r' h0=some b:=ht.of hna
  rwa [aE] at h1
 refine ⟨fun h b hh=>?_,fun b hs=>?_,fun h k b hh hb'=>?_,fun h h' k k1 b hh hh' hb1 hb2=>?_,fun h k hh=>?_,?_,fun h k b hh hb'=>?_,hE.s0,hE.sb⟩
 ·by_cases e:h=h0
  ·subst e;exact hU0
  ·simp only [bL _ _ e] at hh;exact hU _ (hE.used h b hh)
 ·exact Nat.lt_of_lt_of_le (hE.stab b hs) hk.size
 ·by_cases e:h=h0
  ·subst e;simp only [aE,Option.some.injEq] at hh;subst hh;rcases hr b (t0 b hb') with h1 |⟨h1,k1,h2,_⟩
   ·exact h1.2
   ·exact Nat.lt_of_lt_of_le (hE.lt _ _ _ h2 h1) hk.size
  ·simp only [bL _ _ e] at hh;exact Nat.lt_of_lt_of_le (hE.lt' _ _ _ hh (tn _ _ _ e hh hb')) hk.size
 ·by_cases e:h=h0 <;> by_cases e':h'=h0
  ·rw [e,e']
  ·subst e;simp only [aE,Option.some.injEq] at hh;subst hh;simp only [bL _ _ e'] at hh';have q2:=tn _ _ _ e' hh' hb2;rcases hr b (t0 b hb1) with h1 |⟨h1,k2,h2,_⟩
   ·have:=hE.lt' _ _ _ hh' q2;omega
   ·exact hE.inj' _ _ _ _ _ h2 hh' (.inl h1) q2
  ·subst e';simp only [aE,Option.some.injEq] at hh';subst hh';simp only [bL _ _ e] at hh;have q1:=tn _ _ _ e hh hb1;rcases hr b (t0 b hb2) with h1 |⟨h1,k2,h2,_⟩
   ·have:=hE.lt' _ _ _ hh q1;omega
   ·exact hE.inj' _ _ _ _ _ hh h2 q1 (.inl h1)
  ·simp only [bL _ _ e,bL _ _ e'] at hh hh';exact hE.inj' _ _ _ _ _ hh hh' (tn _ _ _ e hh hb1) (tn _ _ _ e' hh' hb2)
 ·by_cases e:h=h0
  ·subst e;simp only [aE,Option.some.injEq] at hh;subst hh;exact hb X
  ·simp only [bL _ _ e] at hh;exact di X (bL _ _ e) (fun b hb'=>keep' h k b e hh hb') (fun b _ _ h=>h) (hE.blk h k hh)
 ·refine hE.keeps.trans hk fun b e=>?_;rcases hr b e with h1 |⟨h1,k1,h2,h3⟩
  ·exact .inr (Nat.le_trans hE.keeps.size h1.1)
  ·exact hE.own _ _ _ h2 h1
 ·by_cases e:h=h0
  ·subst e;simp only [aE,Option.some.injEq] at hh;subst hh;rcases hr b (t0 b hb') with h1 |⟨h1,k1,h2,h3⟩
   ·exact .inr (Nat.le_trans hE.keeps.size h1.1)
   ·exact hE.own _ _ _ h2 h1
  ·simp only [bL _ _ e] at hh;exact hE.own' _ _ _ hh (tn _ _ _ e hh hb')
theorem abV {B:aK} {E:Env} (hE:aM B E) (h0 kk:Nat) (t:Ty) (x':Den t) (b0:Nat) (w':World) (U':Nat->Prop)
  (hU :∀ n,E.U n->U' n) (hU0:U' h0)
  (hk:dA E.w (fun b=>b=b0\/∃ k,E.H h0=some k/\fJ E h0 k b) w')
  (hold :((∃ x,E.H h0=some (.abs kk t x))/\E.ρ h0=some b0)\/(¬ E.U h0/\E.w.heap.size<=b0/\b0<w'.heap.size))
  (hg :∀ g,mM kk w' b0=some g->(∃ k,E.H h0=some k/\fJ E h0 k g)\/(E.w.heap.size<=g/\g<w'.heap.size))
  (hA:Ei w' b0 kk t x') :
  aM B ⟨U',nY E.ρ h0 (some b0),E.S,w',nY E.H h0 (some (.abs kk t x'))⟩/\Ext E ⟨U',nY E.ρ h0 (some b0),E.S,w',nY E.H h0 (some (.abs kk t x'))⟩:=by
 have cls0 :(E.w.heap.size<=b0/\b0<w'.heap.size)\/∃ k,E.H h0=some k/\fJ E h0 k b0:=by
  rcases hold with ⟨⟨x,h1⟩,h2⟩ |⟨_,h2⟩
  ·exact .inr ⟨_,h1,.inl h2⟩
  ·exact .inl h2
 have cls :∀ b,(b=b0\/∃ k,E.H h0=some k/\fJ E h0 k b)->(E.w.heap.size<=b/\b<w'.heap.size)\/∃ k,E.H h0=some k/\fJ E h0 k b:=fun b h=>by
  rcases h with rfl|h
  ·exact cls0
  ·exact .inr h
 have notS :∀ b,(b=b0\/∃ k,E.H h0=some k/\fJ E h0 k b)->¬ E.S b:=fun b h hs=>by
  have hlt:=hE.stab b hs;rcases cls b h with h1 |⟨k,h1,h2⟩
  ·omega
  ·rcases hold with ⟨⟨x,h3⟩,h4⟩ |⟨h3,_⟩
   ·rw [h3] at h1;cases h1;obtain ⟨b1,a1,a2,a3,_⟩:=hE.blk _ _ h3;rcases h2 with h2 |⟨b2,c1,c2⟩
    ·rw [a1] at h2;cases h2;exact a2 hs
    ·rw [a1] at c1;cases c1;exact a3 _ c2 hs
   ·exact h3 (hE.used _ _ h1)
 have keep' :∀ h k b,h≠h0->E.H h=some k->fJ E h k b->w'.heap[b]?=E.w.heap[b]?:=fun h k b hne hh hb'=>by
  have hlt:=hE.lt' h k b hh hb';refine hk.block b hlt fun e=>?_;rcases cls b e with h1 |⟨k1,h1,h2⟩
  ·omega
  ·exact hne (hE.inj' h h0 k k1 b hh h1 hb' h2)
 have keep :∀ h k b,h≠h0->E.H h=some k->E.ρ h=some b->w'.heap[b]?=E.w.heap[b]?:=fun h k b hne hh hb'=>keep' h k b hne hh (.inl hb');have keepS :∀ b,E.S b->w'.heap[b]?=E.w.heap[b]?:=fun b hs=>hk.block b (hE.stab b hs) fun e=>notS b e hs
 have X:Ext E ⟨U',nY E.ρ h0 (some b0),E.S,w',nY E.H h0 (some (.abs kk t x'))⟩:=by
  refine ⟨hU,fun _ h=>h,keepS,fun h cs' hu hh=>?_,fun h ver rw' t' xs' hu hv hh=>?_,fun h ver esz cs' hu hv hh=>?_,fun h es' hu hh=>?_,fun h k1 t1 x1 hu hh=>?_⟩
  ·by_cases e:h=h0
   ·subst e;simp only [aE] at hh;cases hh
   ·simp only [bL _ _ e] at hh ⊢;exact ⟨⟨cs',hh⟩,trivial⟩
  ·by_cases e:h=h0
   ·subst e;simp only [aE] at hh;cases hh
   ·simp only [bL _ _ e] at hh ⊢;exact ⟨rw',xs',hh,rfl,trivial,fun b c T fr hb' hw=>⟨c,T,fr,by rw [keep h _ b e hh hb'];exact hw,rfl⟩⟩
  ·by_cases e:h=h0
   ·subst e;simp only [aE] at hh;cases hh
   ·simp only [bL _ _ e] at hh ⊢;exact ⟨cs',hh,rfl,trivial,fun b c T fr hb' hw=>⟨c,T,fr,by rw [keep h _ b e hh hb'];exact hw,rfl⟩⟩
  ·by_cases e:h=h0
   ·subst e;simp only [aE] at hh;cases hh
   ·simp only [bL _ _ e] at hh ⊢;exact ⟨⟨es',hh⟩,trivial⟩
  ·by_cases e:h=h0
   ·subst e;simp only [aE,Option.some.injEq] at hh ⊢;cases hh;rcases hold with ⟨h1,h2⟩ |⟨h1,_⟩
    ·exact ⟨h1,h2.symm⟩
    ·exact absurd hu h1
   ·simp only [bL _ _ e] at hh ⊢;exact ⟨⟨x1,hh⟩,trivial⟩
 refine ⟨?_,X⟩;have tn :∀ h k b,h≠h0->E.H h=some k->fJ ⟨U',nY E.ρ h0 (some b0),E.S,w',nY E.H h0 (some (.abs kk t x'))⟩ h k b->fJ E h k b:=fun h k b hne hh ht=>ht.mv (bL _ _ hne) fun b' hb'=>keep h k b' hne hh hb'
 have t0 :∀ b,fJ ⟨U',nY E.ρ h0 (some b0),E.S,w',nY E.H h0 (some (.abs kk t x'))⟩ h0 (.abs kk t x') b->(E.w.heap.size<=b/\b<w'.heap.size)\/∃ k,E.H h0=some k/\fJ E h0 k b:=fun b ht=>by
  rcases ht with h1 |⟨b1,h1,h2⟩
  ·have h1:nY E.ρ h0 (some b0) h0=some b:=h1;rw [aE] at h1;cases h1;exact cls0
  ·have h1:nY E.ρ h0 (some b0) h0=some b1:=h1;rw [aE] at h1;cases h1;exact (hg b h2).symm
 refine ⟨fun h b hh=>?_,fun b hs=>?_,fun h k b hh hb'=>?_,fun h h' k k1 b hh hh' hb1 hb2=>?_,fun h k hh=>?_,?_,fun h k b hh hb'=>?_,hE.s0,hE.sb⟩
 ·by_cases e:h=h0
  ·subst e;exact hU0
  ·simp only [bL _ _ e] at hh;exact hU _ (hE.used h b hh)
 ·exact Nat.lt_of_lt_of_le (hE.stab b hs) hk.size
 ·by_cases e:h=h0
  ·subst e;simp only [aE,Option.some.injEq] at hh;subst hh;rcases t0 b hb' with h1 |⟨k1,h1,h2⟩
   ·exact h1.2
   ·exact Nat.lt_of_lt_of_le (hE.lt' _ _ _ h1 h2) hk.size
  ·simp only [bL _ _ e] at hh;exact Nat.lt_of_lt_of_le (hE.lt' _ _ _ hh (tn _ _ _ e hh hb')) hk.size
 ·by_cases e:h=h0 <;> by_cases e':h'=h0
  ·rw [e,e']
  ·subst e;simp only [aE,Option.some.injEq] at hh;subst hh;simp only [bL _ _ e'] at hh';have q2:=tn _ _ _ e' hh' hb2;rcases t0 b hb1 with h1 |⟨k2,h1,h2⟩
   ·have:=hE.lt' _ _ _ hh' q2;omega
   ·exact hE.inj' _ _ _ _ _ h1 hh' h2 q2
  ·subst e';simp only [aE,Option.some.injEq] at hh';subst hh';simp only [bL _ _ e] at hh;have q1:=tn _ _ _ e hh hb1;rcases t0 b hb2 with h1 |⟨k2,h1,h2⟩
   ·have:=hE.lt' _ _ _ hh q1;omega
   ·exact hE.inj' _ _ _ _ _ hh h1 q1 h2
  ·simp only [bL _ _ e,bL _ _ e'] at hh hh';exact hE.inj' _ _ _ _ _ hh hh' (tn _ _ _ e hh hb1) (tn _ _ _ e' hh' hb2)
 ·by_cases e:h=h0
  ·subst e;simp only [aE,Option.some.injEq] at hh;subst hh
   have notS' :∀ b,((E.w.heap.size<=b/\b<w'.heap.size)\/∃ k,E.H h=some k/\fJ E h k b)->¬ E.S b:=fun b hb hs=>by
    rcases hb with h1|h1
    ·have:=hE.stab b hs;omega
    ·exact notS b (.inr h1) hs
   exact ⟨b0,aE _ _ _,notS b0 (.inl rfl),fun g hg'=>notS' g (hg g hg').symm,hA⟩
  ·simp only [bL _ _ e] at hh;exact di X (bL _ _ e) (fun b hb'=>keep' h k b e hh hb') (fun b _ _ h=>h) (hE.blk h k hh)
 ·refine hE.keeps.trans hk fun b e=>?_;rcases cls b e with h1 |⟨k1,h1,h2⟩
  ·exact .inr (Nat.le_trans hE.keeps.size h1.1)
  ·exact hE.own' _ _ _ h1 h2
 ·by_cases e:h=h0
  ·subst e;simp only [aE,Option.some.injEq] at hh;subst hh;rcases t0 b hb' with h1 |⟨k1,h1,h2⟩
   ·exact .inr (Nat.le_trans hE.keeps.size h1.1)
   ·exact hE.own' _ _ _ h1 h2
  ·simp only [bL _ _ e] at hh;exact hE.own' _ _ _ hh (tn _ _ _ e hh hb')
theorem BH {B:aK} {E:Env} (hE:aM B E) (w':World) (hh:w'.heap=E.w.heap) (h1:w'.os=E.w.os) (h2:w'.tape=E.w.tape) (h3:w'.output=E.w.output) :
  aM B { E with w:=w' }/\Ext E { E with w:=w' }:=by
 have X:Ext E { E with w:=w' }:=by refine ⟨fun _ h=>h,fun _ h=>h,fun b _=>by rw [hh],fun h cs _ h=>⟨⟨cs,h⟩,rfl⟩,fun h ver rw t xs _ _ hx=>⟨rw,xs,hx,rfl,rfl,fun b c T fr _ hw=>⟨c,T,fr,by simpa [hh] using hw,rfl⟩⟩,fun h ver esz cs _ _ hx=>⟨cs,hx,rfl,rfl,fun b c T fr _ hw=>⟨c,T,fr,by simpa [hh] using hw,rfl⟩⟩,fun h es _ hx=>⟨⟨es,hx⟩,rfl⟩,fun h k t x _ hx=>⟨⟨x,hx⟩,rfl⟩⟩
 have tm :∀ {h k b},fJ { E with w:=w' } h k b->fJ E h k b:=fun ht=>fJ.mv (E:=E) (E':={ E with w:=w' }) rfl (fun b _=>by show w'.heap[b]?=_;rw [hh]) ht;refine ⟨⟨hE.used,fun b hs=>by simpa [hh] using hE.stab b hs,fun h k b a1 a2=>by simpa [hh] using hE.lt' h k b a1 (tm a2),fun h h' k k' b a1 a2 a3 a4=>hE.inj' h h' k k' b a1 a2 (tm a3) (tm a4),fun h k a1=>di X rfl (fun b _=>by simp [hh]) (fun _ _ _ h=>h) (hE.blk h k a1),?_,fun h k b a1 a2=>hE.own' h k b a1 (tm a2),hE.s0,hE.sb⟩,X⟩;exact hE.keeps.trans (G:=fun _=>False) ⟨h1,h2,h3,by simp [hh],fun b _ _=>by simp [hh]⟩ (fun _ h=>h.elim)
end
section
variable {P:Program}
inductive EK where
 | int (k:IntKind)|bool|str
deriving DecidableEq
def nh:Value->Lit
 | .int k n=> .int k n
 | .bool b=> .bool b
 | .string s=> .string s.data.toList
 | _=> .bool false
def oD:List EK->List Value->Prop
 | [],[]=>True
 | .int k::r,.int k' n::vs=>k'=k/\(Lit.int k n).wf=true/\oD r vs
 | .bool::r,.bool _::vs=>oD r vs
 | .str::r,.string s::vs=>s.size<=maxLen/\oD r vs
 | _,_=>False
def OH (g:List EK->Option (List EK)):Nat->List EK->Option (List EK)
 | 0,ks=>some ks
 | n+1,ks=>match g ks with
  | some r=>OH g n r
  | none=>none
def yR (P:Program) (g:TypeId->List EK->Option (List EK)) (c:Nat):Nat->List Field->List EK->Option (List EK)
 | o,[],ks=>if o=c then some ks else none
 | o,f::fs,ks=>if f.offset=o/\f.name≠"_" then (match g f.type ks with
  | some r=>yR P g c (o+P.cellsOf f.type) fs r
  | none=>none) else none
def Rg (P:Program):Nat->TypeId->List EK->Option (List EK)
 | 0,_,_=>none
 | d+1,t,ks=>match P.underlying t with
  | some .bool=>if P.cellsOf t=1 then (match ks with | .bool::r=>some r|_=>none) else none
  | some (.int k)=>if P.cellsOf t=1 then (match ks with | .int k'::r=>if k'=k then some r else none|_=>none) else none
  | some .string=>if P.cellsOf t=1 then (match ks with | .str::r=>some r|_=>none) else none
  | some (.array n e)=>if n*P.cellsOf e=P.cellsOf t then OH (Rg P d e) n ks else none
  | some (.struct fs)=>yR P (Rg P d) (P.cellsOf t) 0 fs.toList ks
  | _=>none
theorem uc {α β:Type} {f:α->Option β} {g:α->β} :∀ {l:List α},(∀ x∈l,f x=some (g x))->l.mapM f=some (l.map g)
 | [],_=>rfl
 | x::l,h=>by rw [List.mapM_cons,h x (by simp),uc (fun y hy=>h y (by simp [hy]))];rfl
theorem NF {α:Type} (c:Nat) :∀ (n:Nat) (l:List α),((List.range n).map fun i=>(l.drop (i*c)).take c).flatten=l.take (n*c)
 | 0,l=>by simp
 | n+1,l=>by rw [List.range_succ,List.map_append,List.flatten_append,NF c n l];simp only [List.map_cons,List.map_nil,List.flatten_cons,List.flatten_nil,List.append_nil];rw [Nat.add_mul,Nat.one_mul,List.take_add]
def M5 (P:Program) (d:Nat) (t:TypeId):Prop:=
 ∀ ks r,Rg P d t ks=some r->∀ cs,oD ks cs->P.keyLits d t (cs.take (P.cellsOf t))=some ((cs.take (P.cellsOf t)).map nh)/\oD r (cs.drop (P.cellsOf t))/\P.cellsOf t<=cs.length
theorem JV {d:Nat} {e:TypeId} (ih:M5 P d e) :∀ (n:Nat) (ks r:List EK),OH (Rg P d e) n ks=some r->∀ cs,oD ks cs->
  (∀ i,i<n->P.keyLits d e ((cs.drop (i*P.cellsOf e)).take (P.cellsOf e))=some (((cs.drop (i*P.cellsOf e)).take (P.cellsOf e)).map nh))/\oD r (cs.drop (n*P.cellsOf e))/\n*P.cellsOf e<=cs.length
 | 0,ks,r,h,cs,hf=>by simp only [OH,Option.some.injEq] at h;subst h;exact ⟨fun i hi=>by omega,by simpa using hf,by omega⟩
 | n+1,ks,r,h,cs,hf=>by
  simp only [OH] at h;split at h
  case h_2=>cases h
  rename_i r1 hr1;obtain ⟨a1,a2,a3⟩:=ih ks r1 hr1 cs hf;obtain ⟨b1,b2,b3⟩:=JV ih n r1 r h _ a2;rw [List.drop_drop] at b2;simp only [List.length_drop] at b3;have e1:P.cellsOf e+n*P.cellsOf e =(n+1)*P.cellsOf e:=by rw [Nat.add_mul];omega
  rw [e1] at b2;refine ⟨fun i hi=>?_,b2,by omega⟩
  cases i with
  | zero=>simpa using a1
  | succ i=>
   have:=b1 i (by omega)
   rw [List.drop_drop] at this;have e2:P.cellsOf e+i*P.cellsOf e =(i+1)*P.cellsOf e:=by rw [Nat.add_mul];omega
   rw [e2] at this;exact this
theorem JU {d:Nat} (ih :∀ t,M5 P d t) (c:Nat) (cs:List Value) :∀ (fs:List Field) (o:Nat) (ks r:List EK),yR P (Rg P d) c o fs ks=some r->oD ks (cs.drop o)->o<=cs.length->
  fs.mapM (fun f=>P.keyLits d f.type ((cs.drop f.offset).take (P.cellsOf f.type)))=some (fs.map fun f=>((cs.drop f.offset).take (P.cellsOf f.type)).map nh)/\
   (fs.map fun f=>((cs.drop f.offset).take (P.cellsOf f.type)).map nh).flatten =((cs.drop o).take (c - o)).map nh/\oD r (cs.drop c)/\o<=c/\c<=cs.length/\(fs.all fun f=>f.name != "_")=true
 | [],o,ks,r,h,hf,ho=>by
  simp only [yR] at h;split at h
  case isFalse=>cases h
  rename_i e;subst e;cases h;exact ⟨rfl,by simp,hf,Nat.le_refl _,ho,rfl⟩
 | f::fs,o,ks,r,h,hf,ho=>by
  simp only [yR] at h;split at h
  case isFalse=>cases h
  rename_i e;split at h
  case h_2=>cases h
  rename_i r1 hr1;obtain ⟨a1,a2,a3⟩:=ih f.type ks r1 hr1 _ hf;rw [List.drop_drop] at a2;simp only [List.length_drop] at a3;obtain ⟨b1,b2,b3,b4,b5,b6⟩:=JU ih c cs fs _ r1 r h a2 (by omega);refine ⟨uc (fun g hg=>?_),?_,b3,by omega,b5,?_⟩
  ·rcases List.mem_cons.1 hg with rfl|hg
   ·rw [e.1];exact a1
   ·obtain ⟨k,hk,rfl⟩:=List.getElem_of_mem hg
    have key :∀ (l:List Field) (asz:List (List Lit)) (F:Field->Option (List Lit)),l.mapM F=some asz->∀ (k:Nat) (hk:k<l.length),F l[k]=asz[k]?:=by
     intro l
     induction l with
     | nil=>intro asz F _ k hk;simp at hk
     | cons x l ihl=>
      intro asz F hm k hk;rw [List.mapM_cons] at hm;simp only [bind,Option.bind_eq_some_iff,pure,Option.some.injEq] at hm;obtain ⟨y,hy,ys,hys,rfl⟩:=hm
      cases k with
      | zero=>simpa using hy
      | succ k=>simpa using ihl ys F hys k (by simpa using hk)
    have:=key fs _ _ b1 k hk
    rw [this];simp [hk]
  ·rw [List.map_cons,List.flatten_cons,b2,e.1,<-List.map_append];congr 1;have e2:c - o=P.cellsOf f.type +(c - (o+P.cellsOf f.type)):=by omega
   rw [e2,List.take_add,List.drop_drop]
  ·simp only [List.all_cons,Bool.and_eq_true,bne_iff_ne,ne_eq];exact ⟨e.2,b6⟩
theorem H6 :∀ (d:Nat) (t:TypeId),M5 P d t
 | 0,t=>fun ks r h=>by simp [Rg] at h
 | d+1,t=>by
  intro ks r h cs hf;simp only [Rg] at h;split at h
  ·rename_i hu;split at h
   case isFalse=>cases h
   rename_i hc;split at h
   case h_2=>cases h
   cases h
   cases cs with
   | nil=>simp [oD] at hf
   | cons v vs=>cases v <;> simp only [oD] at hf;rw [hc];exact ⟨by simp [Program.keyLits,hu,nh],by simpa using hf,by simp⟩
  ·rename_i k hu;split at h
   case isFalse=>cases h
   rename_i hc;split at h
   case h_2=>cases h
   split at h
   case isFalse=>cases h
   rename_i hk;cases h;subst hk
   cases cs with
   | nil=>simp [oD] at hf
   | cons v vs=>cases v <;> simp only [oD] at hf;obtain ⟨rfl,h1,h2⟩:=hf;rw [hc];exact ⟨by simp [Program.keyLits,hu,nh,h1],by simpa using h2,by simp⟩
  ·rename_i hu;split at h
   case isFalse=>cases h
   rename_i hc;split at h
   case h_2=>cases h
   cases h
   cases cs with
   | nil=>simp [oD] at hf
   | cons v vs=>cases v <;> simp only [oD] at hf;rw [hc];exact ⟨by simp [Program.keyLits,hu,nh,hf.1],by simpa using hf.2,by simp⟩
  ·rename_i n e hu;split at h
   case isFalse=>cases h
   rename_i hc;obtain ⟨a1,a2,a3⟩:=JV (H6 d e) n ks r h cs hf;rw [hc] at a2 a3;refine ⟨?_,a2,a3⟩;have hl :(cs.take (P.cellsOf t)).length=P.cellsOf t:=by simp;omega
   unfold Program.keyLits;simp only [hu];rw [if_pos hl]
   have hch :∀ i∈List.range n,P.keyLits d e (((cs.take (P.cellsOf t)).drop (i*P.cellsOf e)).take (P.cellsOf e))=some (((cs.drop (i*P.cellsOf e)).take (P.cellsOf e)).map nh):=fun i hi=>by
    have hi:i<n:=List.mem_range.1 hi;rw [<-a1 i hi];congr 1;rw [List.drop_take,List.take_take];congr 1
    have:=Nat.mul_le_mul_right (P.cellsOf e) (show i+1<=n from hi)
    rw [Nat.add_mul] at this;omega
   rw [uc hch];simp only [Option.map_some,Option.some.injEq]
   have:=NF (P.cellsOf e) n (cs.map nh)
   rw [hc] at this;rw [List.map_take,<-this];congr 1;apply List.map_congr_left;intro i _;rw [List.map_take,List.map_drop]
  ·rename_i fs hu;obtain ⟨b1,b2,b3,b4,b5,b6⟩:=JU (H6 d) (P.cellsOf t) cs fs.toList 0 ks r h (by simpa using hf) (Nat.zero_le _);refine ⟨?_,b3,b5⟩;have hl :(cs.take (P.cellsOf t)).length=P.cellsOf t:=by simp;omega
   have hall :(fs.all fun f=>f.name != "_")=true:=by rw [<-Array.all_toList];exact b6
   unfold Program.keyLits;simp only [hu];rw [if_pos ⟨hl,hall⟩]
   have hch:fs.toList.mapM (fun f=>P.keyLits d f.type (((cs.take (P.cellsOf t)).drop f.offset).take (P.cellsOf f.type)))=some (fs.toList.map fun f=>((cs.drop f.offset).take (P.cellsOf f.type)).map nh):=by
    have key :∀ (l:List Field) (o:Nat) (ks r:List EK),yR P (Rg P d) (P.cellsOf t) o l ks=some r->∀ f∈l,f.offset+P.cellsOf f.type<=P.cellsOf t:=by
     intro l
     induction l with
     | nil=>intro o ks r _ f hf;simp at hf
     | cons g l ihl=>
      intro o ks r h f hf;simp only [yR] at h;split at h
      case isFalse=>cases h
      rename_i e;split at h
      case h_2=>cases h
      rename_i r1 _
      have hle :∀ (l:List Field) (o:Nat) (ks r:List EK),yR P (Rg P d) (P.cellsOf t) o l ks=some r->o<=P.cellsOf t:=by
       intro l
       induction l with
       | nil=>intro o ks r h;simp only [yR] at h;split at h;omega;cases h
       | cons g l ihl=>
        intro o ks r h;simp only [yR] at h;split at h
        case isFalse=>cases h
        split at h
        case h_2=>cases h
        have:=ihl _ _ _ h
        omega
      rcases List.mem_cons.1 hf with rfl|hf
      ·rw [e.1];exact hle _ _ _ _ h
      ·exact ihl _ _ _ h f hf
    rw [<-b1]
    have hm :∀ (l:List Field) (F G:Field->Option (List Lit)),(∀ f∈l,F f=G f)->l.mapM F=l.mapM G:=by
     intro l F G
     induction l with
     | nil=>intro _;rfl
     | cons f l ihl=>intro h;rw [List.mapM_cons,List.mapM_cons,h f (by simp),ihl (fun g hg=>h g (by simp [hg]))]
    refine hm _ _ _ fun f hf=>?_
    have:=key _ _ _ _ h f hf
    congr 1;rw [List.drop_take,List.take_take];congr 1;omega
   rw [hch];simp only [Option.map_some,Option.some.injEq];rw [b2];simp
  ·cases h
end
section
inductive TK where
 | int (k:IntKind)|bool|str|ptr (e:TypeId)|slice (e:TypeId)|struct (fs:List (Nat×TypeId))|arr (n e:Nat)|map (k e:TypeId)
structure TD where
 kind:TK
 size:Nat
 bytes:Nat
 zero:List V
 ty:Option Ty
def TK.agg:TK->Bool
 | .struct _ | .arr _ _=>true
 | _=>false
abbrev bG:=TypeId->Option TD
inductive Ob where
 | rng (n:Int) (len:Nat)
 | sub (l h:Int) (len:Nat)
 | mk (n c:Int)
 | mkc (n c:Int)
 | ne0 (n:Int)
 | leN (a b:Nat)
 | prop (p:Prop)
def Ob.holds:Ob->Prop
 | .rng n len=>0<=n/\n <(len:Int)
 | .sub l h len=>0<=l/\l<=h/\h<=(len:Int)
 | .mk n c=>0<=n/\c=n/\n<=17179869184
 | .mkc n c=>0<=n/\n<=c/\c<=17179869184
 | .ne0 n=>n≠0
 | .leN a b=>a<=b
 | .prop p=>p
inductive Res where
 | bad
 | val (ps:List Ob) (v:V) (dh:List (Nat×bd))
 | skip (ps:List Ob) (dh:List (Nat×bd))
abbrev a6:=Nat->Option bd
abbrev dR:=List V->a6->Nat->Option (List Prop×V×List (Nat×bd))
def cellsOf:V->Option (List V)
 | .agg cs=>some cs
 | .tup _ | .any | .hint _ _=>none
 | v=>some [v]
def V.one:V->Bool
 | .any | .agg _ | .tup _ | .hint _ _=>false
 | _=>true
def ld (td:TD) (cs:List V) (off:Nat):Res:=
 if td.kind.agg then
  if off+td.size<=cs.length then .val [] (.agg ((cs.drop off).take td.size)) [] else .bad
 else match cs[off]? with
  | some v=> .val [] v []
  | none=> .bad
def lY (t:Ty) (xs:List (Den t)) (i:Int):List V:=flat gb t (xs.getD i.toNat (af t))
def oz (td:TD) (H:a6):V->Res
 | .ptr h off=>match H h with|some (.cells cs)=>ld td cs off|_=> .bad
 | .fp t xs i off=>ld td (lY t xs i) off
 | .rp h ver i off=>match H h with
  | some (.row ver' _ t xs)=>if ver=ver' then ld td (lY t xs i) off else .bad
  | _=> .bad
 | _=> .bad
def cJ (cs:List V) (off:Nat) (xs:List V):List V:=cs.take off++xs++cs.drop (off+xs.length)
def J9 (k:IntKind):List V->Option (Int×List V)
 | .int k' n::r=>if k=k' then some (n,r) else none
 | _=>none
def J8:List V->Option (Bool×List V)
 | .bool b::r=>some (b,r)
 | .kb b::r=>some (b,r)
 | _=>none
def Kb:List V->Option (ByteArray×List V)
 | .str s::r=>some (s,r)
 | _=>none
def Px (H:a6) (t:Ty):List V->Option (List (Den t)×List V)
 | .fsl t' xs::r=>if h:t'=t then some ((h▸xs:List (Den t)),r) else none
 | .nilsl::r=>some ([],r)
 | .esl::r=>some ([],r)
 | .osl h ver::r=>match H h with
  | some (.row ver' false t' xs)=>if e:t'=t then (if ver=ver' then some ((e▸xs:List (Den t)),r) else none) else none
  | _=>none
 | _=>none
def mm (H:a6):Nat->(t:Ty)->List V->Option (Den t×List V)
 | 0,_,_=>none
 | _+1,.int k,vs=>J9 k vs
 | _+1,.bool,vs=>J8 vs
 | _+1,.str,vs=>Kb vs
 | _+1,.unit,r=>some ((),r)
 | f+1,.prod a b,r=>match mm H f a r with
  | some (x,r')=>match mm H f b r' with
   | some (y,r'')=>some ((x,y),r'')
   | none=>none
  | none=>none
 | _+1,.slice t,vs=>Px H t vs
 | f+1,.nm n,r=>match mm H f n.n7 r with
  | some (x,r')=>some (n.of x,r')
  | none=>none
def xA (H:a6) (t:Ty) (cs:List V):Option (Den t):=
 match mm H gb t cs with
 | some (x,[])=>some x
 | _=>none
def gz :(t:Ty)->Den t->V
 | .int k,n=> .int k n
 | .bool,b=> .bool b
 | .str,s=> .str s
 | .slice t,xs=> .fsl t xs
 | .unit,_=> .agg []
 | .prod a b,x=> .agg (flat gb (.prod a b) x)
 | .nm n,x=> .agg (flat gb (.nm n) x)
def hY:V->Bool
 | .agg _=>true
 | _=>false
def Ly (H:a6) (t:Ty) (v:V):Option (Den t):=bif lQ t==hY v then (match cellsOf v with|some cs=>xA H t cs|none=>none) else none
def Ty.kT:Ty->Bool
 | .int _ | .bool | .str | .unit=>true
 | .prod a b=>Ty.kT a&&Ty.kT b
 | _=>false
def Ty.nO:Ty->Bool
 | .int _ | .bool | .str | .unit=>true
 | .prod a b=>Ty.nO a&&Ty.nO b
 | .slice _=>false
 | .nm n=>n.n7.kT
def Ty.fh:Ty->Bool
 | .int _ | .bool | .str | .unit=>true
 | .prod a b=>a.fh&&b.fh
 | .slice _=>false
 | .nm n=>n.n7.nO
def Bs (H:a6) (t:Ty):Nat->List V->Option (List (Den t))
 | 0,[]=>some []
 | n+1,cs=>match mm H gb t cs with
  | some (x,r)=>match Bs H t n r with
   | some xs=>some (x::xs)
   | none=>none
  | none=>none
 | 0,_::_=>none
def rO (td:TD) (H:a6) (a x:V):Res:=
 match cellsOf x with
 | none=> .bad
 | some xs=>if xs.length=td.size/\xs.all V.one=true then
   match a with
   | .ptr h off=>match H h with
    | some (.cells cs)=>if off+td.size<=cs.length then .skip [] [(h,.cells (cJ cs off xs))] else .bad
    | _=> .bad
   | .rp h ver i off=>match H h with
    | some (.row ver' true t ys)=>if ver=ver' then
      let old:=lY t ys i
      if off+td.size<=sz t then
       match xA H t (cJ old off xs) with
       | some y=> .skip [] [(h,.row ver true t (ys.set i.toNat y))]
       | none=> .bad
      else .bad
     else .bad
    | _=> .bad
   | _=> .bad
  else .bad
def vB (tb:bG) (td:TD) (x:V) (f:Nat):Res:=
 match td.kind with
 | .struct fs=>match fs[f]? with
  | some (o,ft)=>match tb ft with
   | some tf=>if tf.size=0 then .bad else
    match x with
    | .ptr h off=> .val [] (.ptr h (off+o)) []
    | .fp t xs i off=> .val [] (.fp t xs i (off+o)) []
    | .rp h ver i off=> .val [] (.rp h ver i (off+o)) []
    | _=> .bad
   | none=> .bad
  | none=> .bad
 | _=> .bad
def jY (tb:bG) (td:TD) (x:V) (f:Nat):Res:=
 match td.kind with
 | .struct fs=>match fs[f]? with
  | some (o,ft)=>match tb ft with
   | some tf=>match x with
    | .agg cs=>ld tf cs o
    | _=> .bad
   | none=> .bad
  | none=> .bad
 | _=> .bad
def rL (tb:bG) (td:TD) (H:a6) (x i:V):Res:=
 match i with
 | .int _ n=>
  match td.kind with
  | .slice e=>match tb e with
   | some te=>match x with
    | .fsl t xs=>if te.size=sz t then .val [.rng n xs.length] (.fp t xs n 0) [] else .bad
    | .osl h ver=>match H h with
     | some (.row ver' _ t xs)=>if ver=ver' then (if te.size=sz t then .val [.rng n xs.length] (.rp h ver n 0) [] else .bad) else .bad
     | _=> .bad
    | _=> .bad
   | none=> .bad
  | .arr len e=>match tb e with
   | some te=>match x with
    | .ptr h off=> .val [.rng n len] (.ptr h (off+n.toNat*te.size)) []
    | _=> .bad
   | none=> .bad
  | _=> .bad
 | _=> .bad
def Ew (d:Int):Option V->Option Int
 | none=>some d
 | some (.int _ n)=>some n
 | _=>none
def lB (tb:bG) (td:TD):Option Nat:=
 match td.kind with
 | .slice e=>match tb e with|some te=>some te.size|none=>none
 | _=>none
def Wo (tb:bG) (td:TD):Bool:=(lB tb td).isSome ||(match td.kind with | .str=>true|_=>false)
def AA (n:Int):Option V->Bool
 | some (.int _ k)=>k==n
 | _=>false
def Xa (_:a6):V->Bool
 | .fsl _ _ | .nilsl | .esl | .osl _ _=>true
 | _=>false
def vC (tb:bG) (td:TD) (H:a6) (x:V) (lo hi mx:Option V):Res:=
 match mx with
 | some (.int _ n)=>if n=0/\AA 0 lo=true/\AA 0 hi=true/\(lB tb td).isSome=true/\Xa H x=true then .val [] .esl [] else .bad
 | some _=> .bad
 | none=>
  match x with
  | .str s=>match td.kind,Ew 0 lo,Ew s.size hi with
   | .str,some l,some h=> .val [.sub l h s.size] (.str (s.extract l.toNat h.toNat)) []
   | _,_,_=> .bad
  | .fsl t xs=>match lB tb td,Ew 0 lo,Ew xs.length hi with
   | some n,some l,some h=>if n=sz t then .val [.sub l h xs.length] (.fsl t ((xs.take h.toNat).drop l.toNat)) [] else .bad
   | _,_,_=> .bad
  | .osl h0 ver=>match H h0 with
   | some (.row ver' _ t xs)=>if ver=ver' then
     match lB tb td,Ew 0 lo,Ew xs.length hi with
     | some n,some l,some h=>if n=sz t then .val [.sub l h xs.length] (.fsl t ((xs.take h.toNat).drop l.toNat)) [(h0,.row ver false t xs)] else .bad
     | _,_,_=> .bad
    else .bad
   | _=> .bad
  | _=> .bad
def ka (f:Nat->Option (Nat×Nat)) (cs:List V):List (Nat×V)->Option (List V)
 | []=>some cs
 |(i,v)::r=>match f i with
  | some (off,size)=>match cellsOf v with
   | some xs=>if xs.length=size then (if off+xs.length<=cs.length then ka f (cJ cs off xs) r else none) else none
   | none=>none
  | none=>none
def pE (tb:bG) (td:TD) (parts:List (Nat×V)):Res:=
 match td.kind with
 | .struct fs=>if fs.all (fun q=>(tb q.2).isSome)=true then
   match ka (fun i=>(fs[i]?).map fun q=>(q.1,((tb q.2).map TD.size).getD 0)) td.zero parts with
   | some cs=> .val [] (.agg cs) []
   | none=> .bad
  else .bad
 | .arr _ e=>match tb e with
  | some te=>match ka (fun i=>some (i*te.size,te.size)) td.zero parts with
   | some cs=> .val [] (.agg cs) []
   | none=> .bad
  | none=> .bad
 | _=> .bad
def qd (cs:List V):Nat->List V
 | 0=> []
 | n+1=>cs++qd cs n
def eD (tb:bG) (td:TD) (H:a6) (m n:Nat) (parts:List (Nat×V)):Res:=
 match td.kind with
 | .slice e=>match tb e with
  | some te=>match te.ty with
   | some t=>if te.size=sz t/\n<=1000/\te.size<=1000/\te.zero.length=te.size then
     match ka (fun i=>some (i*te.size,te.size)) (qd te.zero n) parts with
     | some cs=>match Bs H t n cs with
      | some xs=> .val [] (.osl m m) [(m,.row m true t xs)]
      | none=> .bad
     | none=> .bad
    else .bad
   | none=> .bad
  | none=> .bad
 | _=> .bad
def oA (tb:bG) (td:TD) (H:a6) (m:Nat) (len cap:V):Res:=
 match len,cap with
 | .int _ n,.int _ c=>match td.kind with
  | .slice e=>match tb e with
   | some te=>match te.ty with
    | some t=>if te.size=sz t/\te.bytes<=1000/\te.zero.length=te.size then
      match xA H t te.zero with
      | some z=> .val [.mk n c] (.osl m m) [(m,.row m true t (List.replicate n.toNat z))]
      | none=> .bad
     else .bad
    | none=> .bad
   | none=> .bad
  | _=> .bad
 | _,_=> .bad
def kF (s:ByteArray):List Int:=s.data.toList.map fun b=>(b.toNat:Int)
def ub (H:a6) (t:Ty):V->Option (List (Den t))
 | .fsl t' xs=>if h:t'=t then some (h▸xs:List (Den t)) else none
 | .str s=>if h:Ty.int .u8=t then some (h▸(kF s:List (Den (Ty.int .u8))):List (Den t)) else none
 | .nilsl=>some []
 | .esl=>some []
 | .osl h ver=>match H h with
  | some (.row ver' _ t' xs)=>if e:t'=t then (if ver=ver' then some (e▸xs:List (Den t)) else none) else none
  | _=>none
 | _=>none
def lZ (tb:bG) (td:TD) (H:a6) (m:Nat) (s x:V):Res:=
 match td.kind with
 | .slice e=>match tb e with
  | some te=>match te.ty with
   | some t=>if te.size=sz t/\0<te.bytes/\te.bytes<=1000/\te.zero.length=te.size then
     match ub H t x with
     | some ys=>match s with
      | .nilsl=> .val [.leN (ys.length*te.bytes) 70368744177664] (.osl m m) [(m,.row m true t ys)]
      | .esl=> .val [.leN (ys.length*te.bytes) 70368744177664] (.osl m m) [(m,.row m true t ys)]
      | .osl h ver=>match H h with
       | some (.row ver' true t' xs)=>if e':t'=t then (if ver=ver' then
         .val [.leN ((xs.length+ys.length)*te.bytes) 70368744177664] (.osl h m) [(h,.row m true t ((e'▸xs:List (Den t))++ys))] else .bad) else .bad
       | _=> .bad
      | _=> .bad
     | none=> .bad
    else .bad
   | none=> .bad
  | none=> .bad
 | _=> .bad
def zH (td:TD) (H:a6) (x:V):Res:=
 match td.kind,x with
 | .str,.str s=> .val [] (.int .i64 s.size) []
 | .slice _,.fsl _ xs=> .val [] (.int .i64 xs.length) []
 | .slice _,.nilsl=> .val [] (.int .i64 0) []
 | .slice _,.esl=> .val [] (.int .i64 0) []
 | .slice _,.osl h ver=>match H h with
  | some (.row ver' _ _ xs)=>if ver=ver' then .val [] (.int .i64 xs.length) [] else .bad
  | _=> .bad
 | .arr n _,_=>if n<=1000000 then .val [] (.int .i64 n) [] else .bad
 | _,_=> .bad
def OO (x y:Int):Int:=if y<x then y else x
def ON (x y:Int):Int:=if y>x then y else x
def mR (f:Int->Int->Int):V->List V->Res
 | .int k x,[]=> .val [] (.int k x) []
 | .int k x,.int k' y::r=>if k=k' then mR f (.int k (f x y)) r else .bad
 | _,_=> .bad
def Wq:V->Option Bool
 | .bool b=>some b
 | .kb b=>some b
 | _=>none
def ekV:V->Option EK
 | .int k _=>some (.int k)
 | .bool _ | .kb _=>some .bool
 | .str _=>some .str
 | _=>none
def yx:List V->Option (List EK)
 | []=>some []
 | v::vs=>match ekV v,yx vs with
  | some k,some ks=>some (k::ks)
  | _,_=>none
def TD.plain (td:TD):Bool:=td.kind.agg&&(yx td.zero).isSome
def Z5:V->V->Bool
 | .int _ a,.int _ b=>a==b
 | .str a,.str b=>a.toList==b.toList
 | x,y=>match Wq x,Wq y with
  | some a,some b=>a==b
  | _,_=>false
def Cu:List V->List V->Bool
 | x::xs,y::ys=>Z5 x y&&Cu xs ys
 | _,_=>true
def Fi:TK->V->Option V
 | .slice _,.nilsl=>some (.kb true)
 | .slice _,.fsl _ xs=>some (.hint xs.isEmpty true)
 | .slice _,.esl=>some (.hint true true)
 | .slice _,.osl _ _=>some (.hint true true)
 | .ptr _,.nilptr=>some (.kb true)
 | .ptr _,.ptr _ _=>some (.kb false)
 | .ptr _,.fp _ _ _ _=>some (.kb false)
 | .ptr _,.rp _ _ _ _=>some (.kb false)
 | .map _ _,.nilmap=>some (.kb true)
 | .slice _,.gsl _ _ _ _ _=>some (.kb false)
 | .ptr _,.gp _ _ _=>some (.kb false)
 | .map _ _,.mpv _=>some (.kb false)
 | _,_=>none
def noV:V->V
 | .kb b=> .kb (!b)
 | .hint q p=> .hint q (!p)
 | v=>v
def wW:TK->V->Bool
 | .slice _,.nilsl=>true
 | .ptr _,.nilptr=>true
 | .map _ _,.nilmap=>true
 | _,_=>false
def aav (k:IntKind) (a b:Int):Int:=k.wrap (BitVec.ofInt k.bits a &&& BitVec.ofInt k.bits b).toNat
def im (td:TD) (op:BinOp) (x y:V):Res:=
 match x,y with
 | .int k a,.int k' b=>if k=k' then
   match op with
   | .add=> .val [] (.int k (k.wrap (a+b))) []
   | .sub=> .val [] (.int k (k.wrap (a - b))) []
   | .mul=> .val [] (.int k (k.wrap (a*b))) []
   | .quo=> .val [.ne0 b] (.int k (k.wrap (a.tdiv b))) []
   | .rem=> .val [.ne0 b] (.int k (a.tmod b)) []
   | .and=> .val [] (.int k (aav k a b)) []
   | .eql=> .val [] (.bool (a==b)) []
   | .neq=> .val [] (.bool (a != b)) []
   | .lss=> .val [] (.bool (decide (a<b))) []
   | .leq=> .val [] (.bool (decide (a<=b))) []
   | .gtr=> .val [] (.bool (decide (a>b))) []
   | .geq=> .val [] (.bool (decide (a>=b))) []
   | _=> .bad
  else .bad
 | .str a,.str b=>match op with
  | .add=> .val [.leN (a.size+b.size) aW] (.str (a++b)) []
  | .eql=> .val [] (.bool (a.toList==b.toList)) []
  | .neq=> .val [] (.bool (!(a.toList==b.toList))) []
  | .lss=> .val [] (.bool (Op.bytesLess a.toList b.toList)) []
  | .leq=> .val [] (.bool (Op.bytesLess a.toList b.toList||a.toList==b.toList)) []
  | .gtr=> .val [] (.bool (!(Op.bytesLess a.toList b.toList||a.toList==b.toList))) []
  | .geq=> .val [] (.bool (!Op.bytesLess a.toList b.toList)) []
  | _=> .bad
 | .agg xs,.agg ys=>if td.plain=true/\yx xs=yx td.zero/\yx ys=yx td.zero then
   match op with
   | .eql=> .val [] (.bool (Cu xs ys)) []
   | .neq=> .val [] (.bool (!(Cu xs ys))) []
   | _=> .bad
  else .bad
 | x,y=>match Wq x,Wq y,td.kind with
  | some a,some b,.bool=>match op with
   | .eql=> .val [] (.bool (a==b)) []
   | .neq=> .val [] (.bool (!(a==b))) []
   | _=> .bad
  | _,_,k=>match wW k y,Fi k x with
   | true,some v=>match op with
    | .eql=> .val [] v []
    | .neq=> .val [] (noV v) []
    | _=> .bad
   | _,_=> .bad
def NT (op:UnOp) (x:V):Res:=
 match op,x with
 | .not,.bool b=> .val [] (.bool (!b)) []
 | .not,.kb b=> .val [] (.kb (!b)) []
 | .not,.hint q p=> .val [] (.hint q (!p)) []
 | .neg,.int k n=> .val [] (.int k (k.wrap (0 - n))) []
 | _,_=> .bad
def CA (src dst:TD) (x:V):Res:=
 match src.kind,dst.kind,x with
 | .int _,.int k,.int _ n=> .val [] (.int k (k.wrap n)) []
 | .str,.str,.str s=> .val [] (.str s) []
 | .int _,.str,.int _ n=> .val [] (.str (Utf8.encode n)) []
 | _,_,_=> .bad
def bm (s:ByteArray):List Int:=s.data.toList.map fun b=>(b.toNat:Int)
def Cx (tb:bG) (src dst:TD) (m:Nat) (x:V):Res:=
 match src.kind,dst.kind,x with
 | .str,.slice e,.str s=>match tb e with
  | some te=>match te.kind with
   | .int .u8=> .val [] (.osl m m) [(m,.row m true (.int .u8) (bm s))]
   | _=> .bad
  | none=> .bad
 | _,_,_=> .bad
def wx (tb:bG) (src dst:TD) (m:Nat) (x:V):Res:=
 match src.kind,dst.kind,x with
 | .str,.slice e,.str s=>match tb e with
  | some te=>match te.ty with
   | some _=>Cx tb src dst m x
   | none=>match te.kind with
    | .int .u8=> .val [] (.gsl m m 1 0 s.size) [(m,.grow m 1 ((bm s).map fun n=> .int .u8 n))]
    | _=> .bad
  | none=> .bad
 | _,_,_=> .bad
def vA (tb:bG) (src dst:TD) (m:Nat) (x:V):Res:=
 match CA src dst x with
 | .bad=>wx tb src dst m x
 | r=>r
def oy (tb:bG) (td:TD) (x i:V):Res:=
 match td.kind,x,i with
 | .str,.str s,.int _ n=> .val [.rng n s.size] (.int .u8 ((s.data.getD n.toNat 0).toNat:Int)) []
 | .arr len e,.agg cs,.int _ n=>match tb e with
  | some te=>match ld te cs (n.toNat*te.size) with
   | .val _ v _=> .val [.rng n len] v []
   | _=> .bad
  | none=> .bad
 | _,_,_=> .bad
def abd (p:Bool):V->V->Option V
 | .int k a,.int k' b=>if k=k' then some (.int k (cond p a b)) else none
 | .str a,.str b=>some (.str (cond p a b))
 | .bool a,.bool b=>some (.bool (cond p a b))
 | .bool a,.kb b=>some (.bool (cond p a b))
 | .kb a,.bool b=>some (.bool (cond p a b))
 | .kb a,.kb b=>some (.bool (cond p a b))
 | _,_=>none
def tv:V->V->V->Res
 | .kb p,a,b=> .val [] (match p with|true=>a|false=>b) []
 | .bool p,a,b=>match abd p a b with|some v=> .val [] v []|none=> .bad
 | _,_,_=> .bad
def pF:V->Nat->Res
 | .tup vs,i=>match vs[i]? with|some v=> .val [] v []|none=> .bad
 | _,_=> .bad
def cv:Value->V
 | .int k n=>if k.min<=n/\n<=k.max then .int k n else .any
 | .bool b=> .kb b
 | .string s=>if s.size<=aW then .str s else .any
 | .slice none 0 0=> .nilsl
 | .pointer none=> .nilptr
 | .nilFunc=> .nilfn
 | .map none=> .nilmap
 | _=> .any
def EV:V->Res
 | .ptr h off=> .val [] (.ptr h off) []
 | .fp t xs i off=> .val [] (.fp t xs i off) []
 | .rp h ver i off=> .val [] (.rp h ver i off) []
 | .fn f caps=> .val [] (.fn f caps) []
 | .gp h ver off=> .val [] (.gp h ver off) []
 | _=> .bad
mutual
def V.hs:V->List Nat
 | .ptr h _=> [h]
 | .rp h _ _ _=> [h]
 | .osl h _=> [h]
 | .gsl h _ _ _ _=> [h]
 | .gp h _ _=> [h]
 | .mpv h=> [h]
 | .av _ h=> [h]
 | .fn _ caps=>tG caps
 | .agg cs=>tG cs
 | .tup vs=>tG vs
 | _=> []
def tG:List V->List Nat
 | []=> []
 | v::vs=>v.hs++tG vs
end
def aX:List Nat->Nat->Bool
 | [],_=>false
 | k::r,i=>Nat.beq k i||aX r i
def vb (H:a6) (L:List Nat):a6:=fun h=>match H h with
 | some (.row ver rw t xs)=>some (.row ver (bif aX L h then false else rw) t xs)
 | x=>x
def gl (H:a6):List Nat->List (Nat×bd)
 | []=> []
 | h::l=>match H h with
  | some (.row ver _ t xs)=>(h,.row ver false t xs)::gl H l
  | _=>gl H l
def gY (td:TD) (H:a6):V->Res
 | .gp h ver off=>match H h with
  | some (.grow ver' _ cs)=>if ver=ver' then ld td cs off else .bad
  | _=> .bad
 | a=>oz td H a
def eJ (td:TD) (H:a6) (a x:V):Res:=
 match a with
 | .gp h ver off=>match cellsOf x with
  | some xs=>if xs.length=td.size/\xs.all V.one=true then
    match H h with
    | some (.grow ver' esz cs)=>if ver=ver'/\off+td.size<=cs.length then .skip [] [(h,.grow ver esz (cJ cs off xs))] else .bad
    | _=> .bad
   else .bad
  | none=> .bad
 | a=>rO td H a x
def ma (tb:bG) (td:TD) (x:V) (f:Nat):Res:=
 match x with
 | .gp h ver off=>match td.kind with
  | .struct fs=>match fs[f]? with
   | some (o,ft)=>match tb ft with
    | some tf=>if tf.size=0 then .bad else .val [] (.gp h ver (off+o)) []
    | none=> .bad
   | none=> .bad
  | _=> .bad
 | x=>vB tb td x f
def fw (tb:bG) (td:TD) (H:a6) (x i:V):Res:=
 match x with
 | .gsl h ver esz off len=>match i with
  | .int _ n=>match td.kind with
   | .slice e=>match tb e with
    | some te=>match H h with
     | some (.grow ver' esz' _)=>if te.size=esz/\ver=ver'/\esz=esz' then .val [.rng n len] (.gp h ver ((off+n.toNat)*esz)) [] else .bad
     | _=> .bad
    | none=> .bad
   | _=> .bad
  | _=> .bad
 | .gp h ver off=>match i with
  | .int _ n=>match td.kind with
   | .arr len e=>match tb e with
    | some te=> .val [.rng n len] (.gp h ver (off+n.toNat*te.size)) []
    | none=> .bad
   | _=> .bad
  | _=> .bad
 | x=>rL tb td H x i
def gZ (tb:bG) (td:TD) (H:a6) (x:V) (lo hi mx:Option V):Res:=
 match x with
 | .gsl h ver esz off len=>match mx with
  | some (.int _ n)=>if n=0/\AA 0 lo=true/\AA 0 hi=true/\(lB tb td).isSome=true then .val [] .esl [] else .bad
  | some _=> .bad
  | none=>match lB tb td,Ew 0 lo,Ew len hi with
   | some n,some l,some r=>match H h with
    | some (.grow ver' esz' _)=>if n=esz/\ver=ver'/\esz=esz' then .val [.sub l r len] (bif Nat.beq l.toNat 0||Nat.blt l.toNat r.toNat then .gsl h ver esz (off+l.toNat) (r.toNat - l.toNat) else .fsl .unit []) [] else .bad
    | _=> .bad
   | _,_,_=> .bad
 | x=>vC tb td H x lo hi mx
def ox (tb:bG) (td:TD) (H:a6) (m n:Nat) (parts:List (Nat×V)):Res:=
 match eD tb td (vb H (tG (parts.map (·.2)))) m n parts with
 | .val ps v dh=> .val ps v (dh++gl H (tG (parts.map (·.2))))
 | r=>r
def Oq:TK->Bool
 | .slice _=>true
 | _=>false
def WL (tb:bG) (td:TD):Bool:=
 match td.kind with
 | .slice e=>match tb e with|some te=>Oq te.kind ||(te.kind.agg&&te.ty.isSome)|none=>false
 | _=>false
def gh (tb:bG) (td:TD) (H:a6) (m n:Nat) (parts:List (Nat×V)):Res:=
 match eD tb td H m n parts with
 | .bad=>bif WL tb td then ox tb td H m n parts else .bad
 | r=>r
def eM (tb:bG) (td:TD) (H:a6) (m n:Nat) (parts:List (Nat×V)):Res:=
 match gh tb td H m n parts with
 | .bad=>match td.kind with
  | .slice e=>match tb e with
   | some te=>if n<=1000/\te.size<=1000/\te.zero.length=te.size then
     match ka (fun i=>some (i*te.size,te.size)) (qd te.zero n) parts with
     | some cs=> .val [] (.gsl m m te.size 0 n) [(m,.grow m te.size cs)]
     | none=> .bad
    else .bad
   | none=> .bad
  | _=> .bad
 | r=>r
def jJ (tb:bG) (td:TD) (H:a6) (m:Nat) (len cap:V):Res:=
 match oA tb td H m len cap with
 | .bad=>match len,cap with
  | .int _ n,.int _ c=>match td.kind with
   | .slice e=>match tb e with
    | some te=>if te.bytes<=1000/\te.zero.length=te.size then
      .val [.mkc n c] (.gsl m m te.size 0 n.toNat) [(m,.grow m te.size (qd te.zero n.toNat))]
     else .bad
    | none=> .bad
   | _=> .bad
  | _,_=> .bad
 | r=>r
def lF (H:a6) (esz:Nat):V->Option (Nat×List V)
 | .nilsl=>some (0,[])
 | .esl=>some (0,[])
 | .fsl _ []=>some (0,[])
 | .gsl h ver esz' off len=>match H h with
  | some (.grow ver' esz2 cs)=>if ver=ver'/\esz'=esz/\esz2=esz then some (len,(cs.drop (off*esz)).take (len*esz)) else none
  | _=>none
 | _=>none
def isG:V->Bool
 | .gsl _ _ _ _ _=>true
 | _=>false
def fN (tb:bG) (td:TD) (H:a6) (m:Nat) (s x:V):Res:=
 match td.kind with
 | .slice e=>match tb e with
  | some te=>if isG s=true\/isG x=true\/te.ty.isNone=true then
    (if 0<te.bytes/\te.bytes<=1000/\te.zero.length=te.size then
     match lF H te.size x with
     | some (k,ys)=>if ys.all V.one=true then
       match k with
       | 0=>(match s with
        | .nilsl=> .val [] .nilsl []
        | .esl=> .val [] .esl []
        | .gsl h ver esz off len=>match H h with
         | some (.grow ver' esz' _)=>if ver=ver'/\esz=esz' then .val [] (.gsl h ver esz off len) [] else .bad
         | _=> .bad
        | _=> .bad)
       | k+1=>match s with
        | .nilsl=> .val [.leN ((k+1)*te.bytes) 70368744177664] (.gsl m m te.size 0 (k+1)) [(m,.grow m te.size ys)]
        | .esl=> .val [.leN ((k+1)*te.bytes) 70368744177664] (.gsl m m te.size 0 (k+1)) [(m,.grow m te.size ys)]
        | .gsl h ver esz off len=>match H h with
         | some (.grow ver' esz' cs)=>if ver=ver'/\esz=te.size/\esz'=te.size/\off=0/\len*te.size=cs.length then
           .val [.leN ((len +(k+1))*te.bytes) 70368744177664] (.gsl h m te.size 0 (len +(k+1))) [(h,.grow m te.size (cs++ys))] else .bad
         | _=> .bad
        | _=> .bad
      else .bad
     | none=> .bad
    else .bad)
   else lZ tb td H m s x
  | none=> .bad
 | _=> .bad
def lC (td:TD) (H:a6) (x:V):Res:=
 match td.kind,x with
 | .slice _,.gsl h ver esz _ len=>match H h with
  | some (.grow ver' esz' _)=>if ver=ver'/\esz=esz'/\len<=aW then .val [] (.int .i64 len) [] else .bad
  | _=> .bad
 | _,_=>zH td H x
def HV:List V->Bool
 | [.nilptr,.nilsl]=>true
 | _=>false
def vz (Γ:FuncId->Option dR) (t:TypeId) (td:TD) (m:Nat):Res:=match Γ adW with
 | some _=>bif Nat.beq t MU&&HV td.zero then .val [] (.av 0 m) [(m,.abs 0 .str (ByteArray.empty:Den .str))] else .val [] (.ptr m 0) [(m,.cells td.zero)]
 | none=> .val [] (.ptr m 0) [(m,.cells td.zero)]
def Cy (c:dR) (args:List V) (H:a6) (m:Nat):Res:=
 match c args H m with
 | some (ps,v,dh)=> .val (ps.map .prop) v dh
 | none=> .bad
def tC (asz:List V):List V->Option (List V)
 | []=>some asz
 | .ptr h o::r=>some (asz ++ .ptr h o::r)
 | .nilmap::r=>some (r++asz)
 | _=>none
def tu (f:FuncId):List V->List V->Res
 | [],[]=> .val [] (.fn f []) []
 | [],.ptr h o::r=> .val [] (.fn f (.ptr h o::r)) []
 | x::xs,[]=> .val [] (.fn f (.nilmap::x::xs)) []
 | _,_=> .bad
def c7 (tb:bG) (Γ:FuncId->Option dR) (m:Nat) (H:a6) (ev:Operand->V):Op->Res
 | .move x | .assign x=> .val [] (ev x) []
 | .pick c a b=>tv (ev c) (ev a) (ev b)
 | .alloc t=>match tb t with|some td=>vz Γ t td m|none=> .bad
 | .box _ x=>match cellsOf (ev x) with|some cs=> .val [] (.ptr m 0) [(m,.cells cs)]|none=> .bad
 | .build t parts=>match tb t with|some td=>pE tb td (parts.toList.map fun p=>(p.1,ev p.2))|none=> .bad
 | .buildSlice t n parts=>match tb t with|some td=>eM tb td H m n (parts.toList.map fun p=>(p.1,ev p.2))|none=> .bad
 | .load t a=>match tb t with|some td=>gY td H (ev a)|none=> .bad
 | .nilCheck x=>EV (ev x)
 | .binOp op t x y _=>match tb t with|some td=>im td op (ev x) (ev y)|none=> .bad
 | .unOp op _ x=>NT op (ev x)
 | .convert s d x=>match tb s,tb d with|some ts,some td=>vA tb ts td m (ev x)|_,_=> .bad
 | .makeFunc (.func f) first caps=>tu f (first.toList.map ev) (caps.toList.map ev)
 | .makeSlice t l c=>match tb t with|some td=>jJ tb td H m (ev l) (ev c)|none=> .bad
 | .slice t x lo hi mx=>match tb t with|some td=>gZ tb td H (ev x) (lo.map ev) (hi.map ev) (mx.map ev)|none=> .bad
 | .fieldAddr t x f=>match tb t with|some td=>ma tb td (ev x) f|none=> .bad
 | .field t x f=>match tb t with|some td=>jY tb td (ev x) f|none=> .bad
 | .indexAddr t x i=>match tb t with|some td=>fw tb td H (ev x) (ev i)|none=> .bad
 | .index t x i=>match tb t with|some td=>oy tb td (ev x) (ev i)|none=> .bad
 | .extract t i=>pF (ev t) i
 | .call c=>match c.callee with
  | .builtin .len=>match c.argTypes.toList,c.args.toList with
   | [t],[x]=>match tb t with|some td=>lC td H (ev x)|none=> .bad
   | _,_=> .bad
  | .builtin .min=>match c.args.toList with|x::r=>mR OO (ev x) (r.map ev) | []=> .bad
  | .builtin .max=>match c.args.toList with|x::r=>mR ON (ev x) (r.map ev) | []=> .bad
  | .builtin .append=>match c.argTypes.toList,c.args.toList with
   | [t,t2],[s,x]=>match tb t,tb t2 with|some td,some td2=>if Wo tb td2=true then fN tb td H m (ev s) (ev x) else .bad|_,_=> .bad
   | _,_=> .bad
  | .value f=>match ev f with
   | .fn g caps=>match Γ g with
    | some ct=>match tC (c.args.toList.map ev) caps with
     | some asz=>Cy ct asz H m
     | none=> .bad
    | none=> .bad
   | _=> .bad
  | _=> .bad
 | _=> .bad
def hJ (td:TD) (H:a6) (a x:V):Res:=
 match a with
 | .rp h ver i off=>match eJ td H (.rp h ver i off) x with
  | .bad=>match eJ td (vb H x.hs) (.rp h ver i off) x with
   | .skip ps dh=> .skip ps (dh++gl H x.hs)
   | _=> .bad
  | r=>r
 | a=>eJ td H a x
def du (tb:bG) (H:a6) (ev:Operand->V):Op->Option (List Ob×List (Nat×bd))
 | .store t a x=>match tb t with
  | some td=>match hJ td H (ev a) (ev x) with
   | .skip ps dh=>some (ps,dh)
   | _=>none
  | none=>none
 | _=>none
end
section
open Go.RowKit
def zeq:V->Value->Bool
 | .int k n,.int k' n'=>decide (k=k')&&(n==n')&&decide (k.min<=n/\n<=k.max)
 | .kb b,.bool b'=>b==b'
 | .str s,.string s'=>s.data.toList.length==0&&s'.data.toList.length==0
 | .nilsl,.slice none 0 0=>true
 | .nilptr,.pointer none=>true
 | .nilfn,.nilFunc=>true
 | .nilmap,.map none=>true
 | _,_=>false
def Ef:List V->List Value->Bool
 | [],[]=>true
 | x::xs,v::vs=>zeq x v&&Ef xs vs
 | _,_=>false
theorem zv {s:ByteArray} (h:s.data.toList.length=0):s=ByteArray.empty:=by
 cases s with
 | mk d=>
  have:d=#[]:=Array.eq_empty_of_size_eq_zero (by simpa using h)
  subst this;rfl
theorem Rc {E:Env} {x:V} {v:Value} (h:zeq x v=true):ae E x v:=by
 cases x <;> cases v <;> simp only [zeq,Bool.false_eq_true] at h
 case int.int k n k' n'=>
  simp only [Bool.and_eq_true,decide_eq_true_eq,beq_iff_eq] at h;obtain ⟨⟨rfl,rfl⟩,h⟩:=h;exact ⟨rfl,h⟩
 case kb.bool=>simp only [beq_iff_eq] at h;subst h;rfl
 case str.string s s'=>
  simp only [Bool.and_eq_true,beq_iff_eq] at h;have e1:=zv h.1;have e2:=zv h.2;subst e1;subst e2;exact ⟨rfl,by decide⟩
 case nilsl.slice a l c=>
  cases a <;> cases l <;> cases c <;> simp_all [ae]
 case nilptr.pointer a=>cases a <;> simp_all [ae]
 case nilmap.map a=>cases a <;> simp_all [ae]
 case nilfn.nilFunc=>rfl
theorem eF {E:Env} :∀ {xs:List V} {vs:List Value},Ef xs vs=true->ai E xs vs
 | [],[],_=>trivial
 | _::_,[],h=>by simp [Ef] at h
 | [],_::_,h=>by simp [Ef] at h
 | x::xs,v::vs,h=>by simp only [Ef,Bool.and_eq_true] at h;exact ⟨Rc h.1,eF h.2⟩
def bJ (P:Program) (t:TypeId):TK->Prop
 | .int k=>P.underlying t=some (.int k)
 | .bool=>P.underlying t=some .bool
 | .str=>P.underlying t=some .string
 | .ptr e=>P.underlying t=some (.pointer e)
 | .slice e=>P.underlying t=some (.slice e)
 | .arr n e=>P.underlying t=some (.array n e)
 | .map k e=>P.underlying t=some (.map k e)
 | .struct fs=>∃ fields:Array Field,P.underlying t=some (.struct fields)/\fields.toList.map (fun f=>(f.offset,f.type))=fs
def Oz (P:Program) (t:TypeId) (k:TK):Bool:=
 match k,P.underlying t with
 | .int k,some (.int k')=>decide (k=k')
 | .bool,some .bool=>true
 | .str,some .string=>true
 | .ptr e,some (.pointer e')=>e==e'
 | .slice e,some (.slice e')=>e==e'
 | .arr n e,some (.array n' e')=>n==n'&&e==e'
 | .map a e,some (.map a' e')=>a==a'&&e==e'
 | .struct fs,some (.struct fields)=>fields.toList.map (fun f=>(f.offset,f.type))==fs
 | _,_=>false
theorem OA {P:Program} {t:TypeId} {k:TK} (h:Oz P t k=true):bJ P t k:=by
 unfold Oz at h
 cases hu:P.underlying t with
 | none=>rw [hu] at h;cases k <;> simp at h
 | some d=>rw [hu] at h;cases k <;> cases d <;> simp only [Bool.false_eq_true,decide_eq_true_eq,beq_iff_eq,Bool.and_eq_true] at h <;> simp_all [bJ]
def eqB (P:Program) (t:TypeId) (ks:List EK):Bool:=
 decide (Rg P 9 t ks=some [])&&P.keyTypeAt 9 t&&!P.eqGuardType P.depth t
def HU:Value->Bool
 | .agg _=>true
 | _=>false
structure cy (P:Program) (t:TypeId) (d:TD):Prop where
 eqk:d.plain=true->∀ ks,yx d.zero=some ks->eqB P t ks=true
 info :∃ i z,P.info? t=some i/\i.size=d.size/\i.bytes=d.bytes/\i.zero=some z/\Ef d.zero z.cells.toList=true
 kind:bJ P t d.kind
 zagg :∀ i z,P.info? t=some i->i.zero=some z->HU z=d.kind.agg
def cn (P:Program) (tb:bG):Prop:=∀ t d,tb t=some d->cy P t d
def B6 (P:Program) (t:TypeId) (d:TD):Bool:=
 (match P.info? t with
  | some i=>i.size==d.size&&i.bytes==d.bytes&&(match i.zero with|some z=>Ef d.zero z.cells.toList&&(HU z==d.kind.agg)|none=>false)
  | none=>false)&&Oz P t d.kind&&(!d.plain ||(match yx d.zero with|some ks=>eqB P t ks|none=>true))
theorem Hu {P:Program} {t:TypeId} {d:TD} (h:B6 P t d=true):cy P t d:=by
 unfold B6 at h;simp only [Bool.and_eq_true] at h
 have hz :(match P.info? t with
  | some i=>i.size==d.size&&i.bytes==d.bytes&&(match i.zero with|some z=>Ef d.zero z.cells.toList&&(HU z==d.kind.agg)|none=>false)
  | none=>false)=true:=h.1.1
 refine ⟨fun hp ks hk=>?_,?_,OA h.1.2,fun i z hi hzz=>?_⟩
 rotate_left 2
 ·rw [hi] at hz;simp only [hzz,Bool.and_eq_true,beq_iff_eq] at hz;exact hz.2.2
 ·have:=h.2
  rw [hp,hk] at this;simpa using this
 have h1:=h.1.1;split at h1
 ·rename_i i hi;simp only [Bool.and_eq_true,beq_iff_eq] at h1;obtain ⟨⟨a,b⟩,c⟩:=h1;split at c
  ·rename_i z hz;rw [Bool.and_eq_true] at c;exact ⟨i,z,hi,a,b,hz,c.1⟩
  ·cases c
 ·cases h1
def oe (P:Program):Nat->List (Option TD)->Bool
 | _,[]=>true
 | n,none::r=>oe P (n+1) r
 | n,some d::r=>B6 P n d&&oe P (n+1) r
theorem og {P:Program} :∀ (l:List (Option TD)) (n:Nat),oe P n l=true->∀ i d,l[i]?=some (some d)->cy P (n+i) d
 | [],_,_,i,d,h=>by simp at h
 | none::r,n,hc,i,d,h=>by
  cases i with
  | zero=>simp at h
  | succ i=>have:=og r (n+1) hc i d (by simpa using h);simpa [Nat.add_assoc,Nat.add_comm 1 i] using this
 | some d0::r,n,hc,i,d,h=>by
  simp only [oe,Bool.and_eq_true] at hc
  cases i with
  | zero=>simp at h;subst h;exact Hu hc.1
  | succ i=>have:=og r (n+1) hc.2 i d (by simpa using h);simpa [Nat.add_assoc,Nat.add_comm 1 i] using this
theorem yl {P:Program} (l:List (Option TD)) (h:oe P 0 l=true):cn P (fun t=>(l[t]?).getD none):=by
 intro t d hd;dsimp only at hd
 cases hl:l[t]? with
 | none=>rw [hl] at hd;simp at hd
 | some x=>
  rw [hl] at hd;simp only [Option.getD_some] at hd
  have:=og l 0 h t d (by rw [hl,hd])
  simpa using this
def KN:Nat:=1
def aQ (H:a6) (dh:List (Nat×bd)):a6:=fun h=>match find dh h with|some b=>some b|none=>H h
theorem rU (H:a6):aQ H []=H:=rfl
theorem cL (H:a6) (h:Nat) (b:bd):aQ H [(h,b)]=nY H h (some b):=by
 funext k;by_cases e:k=h
 ·subst e
  have:Nat.beq k k=true:=Nat.beq_refl k
  simp [aQ,nY,find]
 ·have:Nat.beq h k=false:=by
   cases hb:Nat.beq h k with
   | false=>rfl
   | true=>exact absurd (Nat.eq_of_beq_eq_true hb).symm e
  simp [aQ,nY,find,e,this]
structure Good (B:aK) (E:Env) (m:Nat) (dh:List (Nat×bd)) (w':World) (E':Env):Prop where
 rel:aM B E'
 ext:Ext E E'
 w:E'.w=w'
 h:E'.H=aQ E.H dh
 u :∀ n,E'.U n->E.U n\/(m<=n/\n<m+KN)
theorem Ext.refl (E:Env):Ext E E:=⟨fun _ h=>h,fun _ h=>h,fun _ _=>rfl,fun _ cs _ hx=>⟨⟨cs,hx⟩,rfl⟩,fun _ _ rw _ xs _ _ hx=>⟨rw,xs,hx,rfl,rfl,fun _ c T fr _ hw=>⟨c,T,fr,hw,rfl⟩⟩,fun _ _ver _esz cs _ _ hx=>⟨cs,hx,rfl,rfl,fun _ c T fr _ hw=>⟨c,T,fr,hw,rfl⟩⟩,fun _ es _ hx=>⟨⟨es,hx⟩,rfl⟩,fun _ _ _ x _ hx=>⟨⟨x,hx⟩,rfl⟩⟩
theorem eN {B:aK} {E:Env} (hE:aM B E) (m:Nat):Good B E m [] E.w E:=⟨hE,Ext.refl E,rfl,(rU _).symm,fun _ h=> .inl h⟩
theorem Ext.trans {E E' E'':Env} (h:Ext E E') (k:Ext E' E''):Ext E E'':=by
 refine ⟨fun n a=>k.u _ (h.u _ a),fun b a=>k.s _ (h.s _ a),fun b a=>(k.keepS b (h.s _ a)).trans (h.keepS b a),fun hh cs' hu hx=>?_,fun hh ver rw' t' xs' hu hv hx=>?_,fun hh ver esz cs' hu hv hx=>?_,fun hh es' hu hx=>?_,fun hh kk t x' hu hx=>?_⟩
 ·obtain ⟨⟨cs1,h1⟩,e1⟩:=k.hc hh cs' (h.u _ hu) hx;obtain ⟨h2,e2⟩:=h.hc hh cs1 hu h1;exact ⟨h2,e1.trans e2⟩
 ·obtain ⟨rw1,xs1,h1,l1,e1,s1⟩:=k.hr hh ver rw' t' xs' (h.u _ hu) (h.u _ hv) hx;obtain ⟨rw2,xs2,h2,l2,e2,s2⟩:=h.hr hh ver rw1 t' xs1 hu hv h1;refine ⟨rw2,xs2,h2,l2.trans l1,e1.trans e2,fun b c T fr hb hw=>?_⟩;obtain ⟨c1,T1,fr1,hw1,hs1⟩:=s2 b c T fr hb hw;obtain ⟨c2,T2,fr2,hw2,hs2⟩:=s1 b c1 T1 fr1 (e2.trans hb) hw1;exact ⟨c2,T2,fr2,hw2,hs2.trans hs1⟩
 ·obtain ⟨xs1,h1,l1,e1,s1⟩:=k.hg hh ver esz cs' (h.u _ hu) (h.u _ hv) hx;obtain ⟨xs2,h2,l2,e2,s2⟩:=h.hg hh ver esz xs1 hu hv h1;refine ⟨xs2,h2,l2.trans l1,e1.trans e2,fun b c T fr hb hw=>?_⟩;obtain ⟨c1,T1,fr1,hw1,hs1⟩:=s2 b c T fr hb hw;obtain ⟨c2,T2,fr2,hw2,hs2⟩:=s1 b c1 T1 fr1 (e2.trans hb) hw1;exact ⟨c2,T2,fr2,hw2,hs2.trans hs1⟩
 ·obtain ⟨⟨es1,h1⟩,e1⟩:=k.hm hh es' (h.u _ hu) hx;obtain ⟨h2,e2⟩:=h.hm hh es1 hu h1;exact ⟨h2,e1.trans e2⟩
 ·obtain ⟨⟨x1,h1⟩,e1⟩:=k.ha hh kk t x' (h.u _ hu) hx;obtain ⟨h2,e2⟩:=h.ha hh kk t x1 hu h1;exact ⟨h2,e1.trans e2⟩
section
variable {P:Program} {t:TypeId} {td:TD}
theorem cy.sizeOf (h:cy P t td) (w:World) :(sizeOf t).run P w = .ok td.size w:=by obtain ⟨i,z,h1,h2,_⟩:=h.info;simp [Go.sizeOf,typeInfo,h1,h2]
theorem cy.bytes (h:cy P t td) (w:World) :(typeInfo t).run P w = .ok ((P.info? t).getD default) w/\((P.info? t).getD default).bytes=td.bytes:=by obtain ⟨i,z,h1,h2,h3,_⟩:=h.info;simp [typeInfo,h1,h3]
theorem cy.zeroValue (h:cy P t td) (w:World) :∃ z,(zeroValue t).run P w = .ok z w/\Ef td.zero z.cells.toList=true:=by obtain ⟨i,z,h1,h2,h3,h4,h5⟩:=h.info;exact ⟨z,by simp [Go.zeroValue,typeInfo,h1,h4],h5⟩
theorem cy.isAgg (h:cy P t td) (w:World) :(isAgg t).run P w = .ok td.kind.agg w:=by
 have hk:=h.kind;cases hx:td.kind <;> rw [hx] at hk <;> simp only [bJ] at hk
 case struct fs=>
  obtain ⟨fields,hk,_⟩:=hk;simp [Go.isAgg,run_underlying hk,TK.agg]
 all_goals simp [Go.isAgg,run_underlying hk,TK.agg]
end
theorem cr (b o n:Nat) :(⟨b,o,none⟩:Addr).add n =⟨b,o+n,none⟩:=by unfold Addr.add;split <;> simp_all
theorem iR {w:World} {b:Nat} {c:Array Value} {T:TypeId} {fr:Nat×Nat} (h:w.heap[b]?=some (.cells c T fr)) (k:Nat):w.cell? ⟨b,k,none⟩=c.toList[k]?:=by simp [World.cell?,h]
theorem pG {w:World} {b:Nat} {c:Array Value} {T:TypeId} {fr:Nat×Nat} (h:w.heap[b]?=some (.cells c T fr)) (hn:sq fr c.size) {k:Nat} (hk:k<c.size):w.frozen? ⟨b,k,none⟩=false:=by
 have:=hn k hk
 simp only [World.frozen?,h];obtain ⟨lo,hi⟩:=fr;simp only [Bool.and_eq_false_iff,decide_eq_false_iff_not] at this ⊢;by_cases h1:lo<=k
 ·exact .inr fun h2=>this ⟨h1,h2⟩
 ·exact .inl h1
theorem rW {P:Program} {E:Env} {t:TypeId} {td:TD} (ht:cy P t td) {b p n:Nat} {c:Array Value} {T:TypeId} {fr:Nat×Nat} (hb:E.w.heap[b]?=some (.cells c T fr)) (hp:p+n<=c.size)
  {cs:List V} (hcs:ai E cs (gR c p n)) {off:Nat} {ps:List Ob} {v:V} {dh:List (Nat×bd)} (h:ld td cs off = .val ps v dh) :
  dh=[]/\∃ v',(loadVar t ⟨b,p+off,none⟩).run P E.w = .ok v' E.w/\ae E v v':=by
 have hlen:cs.length=n:=by
  have:=bk hcs
  simp only [gR,List.length_take,List.length_drop,Array.length_toList] at this;omega
 unfold ld at h;split at h
 ·rename_i hagg;split at h
  ·rename_i hsz;cases h;refine ⟨rfl,.agg ((c.toList.drop (p+off)).take td.size).toArray,?_,?_⟩
   ·have hl :((c.toList.drop (p+off)).take td.size).length=td.size:=by simp only [List.length_take,List.length_drop,Array.length_toList];omega
    have hcells:=run_loadCells_list (P:=P) E.w ⟨b,p+off,none⟩ ((c.toList.drop (p+off)).take td.size) (fun j u hj=>by
     have hjl:j<td.size:=by
      rcases Nat.lt_or_ge j td.size with h'|h'
      ·exact h'
      ·rw [List.getElem?_eq_none (by omega)] at hj;cases hj
     rw [cr,iR hb];rw [List.getElem?_take_of_lt hjl,List.getElem?_drop] at hj
     exact hj)
    rw [hl] at hcells;simp only [loadVar,Sem.run_bind,ht.isAgg,hagg,Result.andThen_ok,if_true,ht.sizeOf,hcells,Sem.run_pure]
   ·simp only [ae];refine ⟨_,rfl,?_⟩
    have:=kK (iL hcs off) td.size
    have e :((gR c p n).drop off).take td.size =(c.toList.drop (p+off)).take td.size:=by simp only [gR,List.drop_take,List.drop_drop,List.take_take];congr 1;omega
    rw [e] at this;simpa using this
  ·cases h
 ·rename_i hagg;split at h
  ·rename_i u hu;cases h;obtain ⟨v',h1,h2⟩:=eQ hcs off v hu;refine ⟨rfl,v',?_,h2⟩
   have hoff:off<n:=by
    rcases Nat.lt_or_ge off cs.length with h'|h'
    ·omega
    ·rw [List.getElem?_eq_none h'] at hu;cases hu
   have:E.w.cell? ⟨b,p+off,none⟩=some v':=by rw [iR hb,<-List.getElem?_drop,<-h1];simp only [gR];rw [List.getElem?_take_of_lt hoff]
   have hagg':td.kind.agg=false:=by simpa using hagg
   simp only [loadVar,Sem.run_bind,ht.isAgg,hagg',Result.andThen_ok,Bool.false_eq_true,if_false,run_load,this]
  ·cases h
theorem eP (b:Nat) {T:TypeId} {fr:Nat×Nat} :∀ (vs:List Value) (o:Nat) (w:World) (c:Array Value),w.heap[b]?=some (.cells c T fr)->o+vs.length<=c.size->
  ∃ c',(w.setCells b o vs).heap[b]?=some (.cells c' T fr)/\c'.toList=c.toList.take o++vs++c.toList.drop (o+vs.length)
 | [],o,w,c,h,_=>⟨c,h,by simp⟩
 | v::r,o,w,c,h,hl=>by
  have hl':o+r.length+1<=c.size:=by simpa [Nat.add_assoc] using hl
  have h1 :(w.setCell ⟨b,o,none⟩ v).heap[b]?=some (.cells (c.setIfInBounds o v) T fr):=by simp [World.setCell,Array.getElem?_modify,h]
  obtain ⟨c',h2,h3⟩:=eP b r (o+1) _ _ h1 (by simp;omega);refine ⟨c',h2,?_⟩;rw [h3];have ho:o<c.toList.length:=by simp;omega
  simp only [Array.toList_setIfInBounds];rw [List.take_set,List.take_succ_eq_append_getElem ho,List.drop_set_of_lt (by omega)];rw [List.set_append_right _ _ (by simp;omega)];simp [Nat.min_eq_left (Nat.le_of_lt (by simpa using ho)),Nat.add_assoc,Nat.add_comm 1]
theorem ee (b:Nat) (F:Nat->Prop) (hF:F b) :∀ (vs:List Value) (o:Nat) (w:World),dA w F (w.setCells b o vs)
 | [],_,w=>dA.refl _ _
 | v::r,o,w=>by refine dA.trans (G:=F) ?_ (ee b F hF r (o+1) (w.setCell ⟨b,o,none⟩ v)) (fun _ h=> .inl h);exact ⟨rfl,rfl,rfl,by simp,fun k hk hf=>Below.heap_setCell _ _ _ _ (fun e=>hf (by rw [e];exact hF))⟩
theorem jf {E:Env} {x:V} {v:Value} (h1:x.one=true) (h:ae E x v):v.oneCell'=true:=by
 cases x <;> simp only [V.one,Bool.false_eq_true] at h1 <;> simp only [ae] at h
 case int=>rw [h.1];rfl
 case bool=>rw [h];rfl
 case kb=>rw [h];rfl
 case str=>rw [h.1];rfl
 case nilptr=>rw [h];rfl
 case ptr hh off=>obtain ⟨_,⟨a,h⟩,_⟩:=h;rw [h];rfl
 case fp=>obtain ⟨b,o,c,T,fr,_,_,_,_,_,_,h⟩:=h;rw [h];rfl
 case rp=>obtain ⟨_,_,⟨a,h⟩,_⟩:=h;rw [h];rfl
 case nilsl=>rw [h];rfl
 case esl=>obtain ⟨a,h⟩:=h;rw [h];rfl
 case osl=>obtain ⟨_,_,⟨a,l,c,h⟩,_⟩:=h;rw [h];rfl
 case gsl=>obtain ⟨_,_,⟨a,l,c,h⟩,_⟩:=h;rw [h];rfl
 case gp=>obtain ⟨_,_,⟨a,h⟩,_⟩:=h;rw [h];rfl
 case mpv=>obtain ⟨_,⟨a,h⟩,_⟩:=h;rw [h];rfl
 case av k h0=>obtain ⟨_,⟨a,h⟩,_⟩:=h;rw [h];cases k <;> rfl
 case fsl=>
  generalize hl:[v]=l at h
  cases h with
  | nil=>cases hl;rfl
  | slice=>cases hl;rfl
 case nilfn=>rw [h];rfl
 case nilmap=>rw [h];rfl
 case fn=>obtain ⟨l,h,_⟩:=h;rw [h];rfl
end
section
open Go.RowKit
theorem nr {B:aK} {E:Env} (hE:aM B E) {h ver:Nat} {rw:Bool} {t:Ty} {xs:List (Den t)} (hH:E.H h=some (.row ver rw t xs)) {v:Value} (hv:ae E (.osl h ver) v) :
  (E.ρ h=none/\xs=[]/\∃ a,v = .slice a 0 0)\/
  ∃ b cap c T fr,E.ρ h=some b/\v = .slice (some ⟨b,0,none⟩) xs.length cap/\E.w.heap[b]?=some (.cells c T fr)/\c.size=cap*sz t/\xs.length<=cap/\sq fr c.size/\(rw=true->¬ E.S b)/\(rw=false->E.S b)/\
   xs.length*sz t<=c.size/\xs.length<=aW/\∀ (i:Nat) (hi:i<xs.length),Rd E.S E.w t xs[i] (gR c (i*sz t) (sz t)):=by
 simp only [ae] at hv;have hb:=hE.blk h _ hH;obtain ⟨_,hb⟩:=hb;rcases hv.2.2.2 _ _ _ hH with ⟨h1,h2⟩ |⟨b,cap,c,T,fr,h1,h2,h3,h4,hcap⟩
 ·rcases hb with ⟨k1,k2⟩ |⟨b,c,T,fr,k1,_⟩
  ·exact .inl ⟨h1,k2,h2⟩
  ·rw [h1] at k1;cases k1
 ·rcases hb with ⟨k1,k2⟩ |⟨b',c',T',fr',k1,k2,k3,k4,k5,k6,k7,k8⟩
  ·rw [h1] at k1;cases k1
  ·rw [h1] at k1;cases k1;rw [h3] at k2;cases k2;exact .inr ⟨b,cap,c,T,fr,h1,h2,h3,h4,hcap,k3,k4,k5,k6,k7,k8⟩
theorem eE {E:Env} {x:V} {xs:List V} {cs:List Value} (h:ai E (x::xs) cs) :∃ c r,cs=c::r/\ae E x c/\ai E xs r:=by
 cases cs with
 | nil=>simp [ai] at h
 | cons c r=>exact ⟨c,r,rfl,h.1,h.2⟩
theorem bN {E:Env} {x:V} {xs:List V} {cs:List Value} (h:ai E (x::xs) cs) :∃ c r,cs=[c]++r/\ae E x c/\ai E xs r:=eE h
theorem Gl {B:aK} {E:Env} (hE:aM B E) {t:Ty} {vs:List V} {xs:List (Den t)} {rest:List V} {cs:List Value} (h:Px E.H t vs=some (xs,rest)) (hv:ai E vs cs) :
  ∃ c1 c2,cs=c1++c2/\Rd E.S E.w (.slice t) xs c1/\ai E rest c2:=by
 unfold Px at h;split at h
 ·rename_i t' ys r;split at h
  ·rename_i e;subst e;cases h;obtain ⟨c,r',rfl,h1,h2⟩:=bN hv;exact ⟨_,_,rfl,h1,h2⟩
  ·cases h
 ·cases h;obtain ⟨c,r',rfl,h1,h2⟩:=bN hv;simp only [ae] at h1;subst h1;exact ⟨_,_,rfl,.nil,h2⟩
 ·cases h;obtain ⟨c,r',rfl,h1,h2⟩:=bN hv;simp only [ae] at h1;obtain ⟨a,rfl⟩:=h1;exact ⟨_,_,rfl,.nil,h2⟩
 ·rename_i hh ver r;split at h
  ·rename_i ver' t' ys hH;split at h
   ·rename_i e;subst e;split at h
    ·rename_i e2;subst e2;cases h;obtain ⟨c,r',rfl,h1,h2⟩:=bN hv;refine ⟨_,_,rfl,?_,h2⟩;rcases nr hE hH h1 with ⟨_,h3,a,rfl⟩ |⟨b,cap,c,T,fr,h3,rfl,h5,h6,hcap,h7,h8,h9,h10,h11,h12⟩
     ·dsimp only;subst h3;exact .nil
     ·show Rd E.S E.w (.slice t') ys _;exact .slice (h9 rfl) h5 (by omega) hcap h11 (fun i hi=>by simpa using h12 i hi)
    ·cases h
   ·cases h
  ·cases h
 ·cases h
theorem jh {B:aK} {E:Env} (hE:aM B E) :∀ (f:Nat) {t:Ty} {vs:List V} {x:Den t} {rest:List V} {cs:List Value},mm E.H f t vs=some (x,rest)->ai E vs cs->
  ∃ c1 c2,cs=c1++c2/\Rd E.S E.w t x c1/\ai E rest c2
 | 0,t,vs,x,rest,cs,h,_=>by simp [mm] at h
 | f+1,.int k,vs,x,rest,cs,h,hv=>by
  simp only [mm] at h;unfold J9 at h;split at h
  ·split at h
   ·rename_i e;subst e;cases h;obtain ⟨c,r',rfl,h1,h2⟩:=bN hv;simp only [ae] at h1;obtain ⟨rfl,h1⟩:=h1;exact ⟨_,_,rfl,.int h1,h2⟩
   ·cases h
  ·cases h
 | f+1,.bool,vs,x,rest,cs,h,hv=>by
  simp only [mm] at h;unfold J8 at h;split at h
  ·cases h;obtain ⟨c,r',rfl,h1,h2⟩:=bN hv;simp only [ae] at h1;subst h1;exact ⟨_,_,rfl,.bool,h2⟩
  ·cases h;obtain ⟨c,r',rfl,h1,h2⟩:=bN hv;simp only [ae] at h1;subst h1;exact ⟨_,_,rfl,.bool,h2⟩
  ·cases h
 | f+1,.str,vs,x,rest,cs,h,hv=>by
  simp only [mm] at h;unfold Kb at h;split at h
  ·cases h;obtain ⟨c,r',rfl,h1,h2⟩:=bN hv;simp only [ae] at h1;obtain ⟨rfl,h1⟩:=h1;exact ⟨_,_,rfl,.str h1,h2⟩
  ·cases h
 | f+1,.unit,vs,x,rest,cs,h,hv=>by simp only [mm] at h;cases h;exact ⟨[],cs,rfl,.unit,hv⟩
 | f+1,.prod a b,vs,x,rest,cs,h,hv=>by
  simp only [mm] at h;split at h
  ·rename_i x1 r1 h1;split at h
   ·rename_i y1 r2 h2;cases h;obtain ⟨c1,c2,rfl,k1,k2⟩:=jh hE f h1 hv;obtain ⟨d1,d2,rfl,k3,k4⟩:=jh hE f h2 k2;exact ⟨c1++d1,d2,by simp,.prod k1 k3,k4⟩
   ·cases h
  ·cases h
 | f+1,.slice t,vs,x,rest,cs,h,hv=>Gl hE h hv
 | f+1,.nm n,vs,x,rest,cs,h,hv=>by
  simp only [mm] at h;split at h
  ·rename_i x1 r1 h1;cases h;obtain ⟨c1,c2,rfl,k1,k2⟩:=jh hE f h1 hv;exact ⟨c1,c2,rfl,.nm (by rw [n.KD];exact k1),k2⟩
  ·cases h
theorem dK {B:aK} {E:Env} (hE:aM B E) {t:Ty} {vs:List V} {x:Den t} {cs:List Value} (h:xA E.H t vs=some x) (hv:ai E vs cs):Rd E.S E.w t x cs:=by
 unfold xA at h;split at h
 ·rename_i x1 h1;cases h;obtain ⟨c1,c2,rfl,k1,k2⟩:=jh hE _ h1 hv
  cases c2 with
  | nil=>simpa using k1
  | cons=>simp [ai] at k2
 ·cases h
theorem DW {α:Type} (l vs:List α) (p k:Nat) (h:p+vs.length<=l.length) :
  (l.take p++vs++l.drop (p+vs.length))[k]?=if k<p then l[k]? else if k<p+vs.length then vs[k - p]? else l[k]?:=by
 have hp :(l.take p).length=p:=by simp;omega
 by_cases h1:k<p
 ·rw [if_pos h1,List.append_assoc,List.getElem?_append_left (by omega),List.getElem?_take_of_lt h1]
 ·rw [if_neg h1];by_cases h2:k<p+vs.length
  ·rw [if_pos h2,List.append_assoc,List.getElem?_append_right (by omega),List.getElem?_append_left (by omega),hp]
  ·rw [if_neg h2,List.getElem?_append_right (by simp;omega),List.getElem?_drop];congr 1;simp;omega
theorem nA (c:Array Value) (o n k:Nat) :(gR c o n)[k]?=if k<n then c.toList[o+k]? else none:=by
 unfold gR;by_cases h:k<n
 ·rw [if_pos h,List.getElem?_take_of_lt h,List.getElem?_drop]
 ·rw [if_neg h,List.getElem?_take_eq_none (by omega)]
theorem vK (c:Array Value) (o n:Nat) (h:o+n<=c.size) :(gR c o n).length=n:=by simp [gR];omega
theorem DP (c c':Array Value) (o s off:Nat) (vs:List Value) (ho:o+s<=c.size) (hoff:off+vs.length<=s) (h:c'.toList=c.toList.take (o+off)++vs++c.toList.drop (o+off+vs.length)) :
  gR c' o s =(gR c o s).take off++vs ++(gR c o s).drop (off+vs.length):=by
 apply List.ext_getElem?;intro k;rw [DW _ _ _ _ (by rw [vK _ _ _ ho];exact hoff),nA,h,DW _ _ _ _ (by simp;omega),nA];by_cases hk:k<s
 ·simp only [if_pos hk];by_cases h1:k<off
  ·rw [if_pos h1,if_pos (by omega)]
  ·rw [if_neg h1,if_neg (by omega)];by_cases h2:k<off+vs.length
   ·rw [if_pos h2,if_pos (by omega)];congr 1;omega
   ·rw [if_neg h2,if_neg (by omega)]
 ·simp only [if_neg hk];rw [if_neg (by omega),if_neg (by omega)]
theorem za (c c':Array Value) (o s p:Nat) (vs:List Value) (hp:p+vs.length<=c.size) (hd:o+s<=p\/p+vs.length<=o) (h:c'.toList=c.toList.take p++vs++c.toList.drop (p+vs.length)) :
  gR c' o s=gR c o s:=by
 apply List.ext_getElem?;intro k;rw [nA,nA,h,DW _ _ _ _ (by simpa using hp)];by_cases hk:k<s
 ·simp only [if_pos hk];by_cases h1:o+k<p
  ·rw [if_pos h1]
  ·rw [if_neg h1,if_neg (by omega)]
 ·simp only [if_neg hk]
theorem jP {E:Env} {cs:List V} {l:List Value} (h:ai E cs l) {xs:List V} {vs:List Value} (hx:ai E xs vs) (off:Nat):ai E (cJ cs off xs) (l.take off++vs++l.drop (off+vs.length)):=by unfold cJ;rw [bk hx];exact cj (cj (kK h off) hx) (iL h _)
theorem ko {fr:Nat×Nat} {n m:Nat} (h:sq fr n) (e:m=n):sq fr m:=by subst e;exact h
theorem js {E:Env} {t:Ty} {xs:List (Den t)} {i:Int} (hi:i.toNat<xs.length) {l:List Value} (h:Rd E.S E.w t xs[i.toNat] l):ai E (lY t xs i) l:=by
 have:=h.flat gb
 unfold lY;have e:xs.getD i.toNat (af t)=xs[i.toNat]:=by simp [List.getD,hi]
 rw [e];exact this
theorem rM {B:aK} {E:Env} (hE:aM B E) {P:Program} {t:TypeId} {td:TD} (ht:cy P t td) {a:V} {av:Value} (ha:ae E a av) {ps:List Ob} {v:V} {dh:List (Nat×bd)} (h:oz td E.H a = .val ps v dh) :
  dh=[]/\∃ v',(Instr.loadAt t av).run P E.w = .ok v' E.w/\ae E v v':=by
 unfold oz at h;split at h
 ·rename_i hh off;split at h
  ·rename_i cs hH;obtain ⟨b,c,T,fr,h1,h2,h3,h4,h5⟩:=hE.blk _ _ hH;simp only [ae] at ha;obtain ⟨b',hb',rfl⟩:=ha.2.2 _ hH;rw [h1] at hb';cases hb'
   have:=rW ht h2 (p:=0) (n:=c.size) (by omega) (cs:=cs) (by simp only [gR,List.drop_zero];rw [List.take_of_length_le (by simp)];exact h5) h
   simpa [Instr.loadAt,Instr.sureAddr] using this
  ·cases h
 ·rename_i t' xs i off;simp only [ae] at ha;obtain ⟨b,o,c,T,fr,h1,h2,h3,h4,h5,h6,rfl⟩:=ha;have hm :(i.toNat+1)*sz t'<=xs.length*sz t':=Nat.mul_le_mul_right _ h6;rw [Nat.add_mul] at hm
  have:=rW ht h2 (p:=o+i.toNat*sz t') (n:=sz t') (by omega) (js h6 (h4 _ h6)) h
  simpa [Instr.loadAt,Instr.sureAddr] using this
 ·rename_i hh ver i off;split at h
  ·rename_i ver' rw' t' xs hH;split at h
   ·rename_i e;subst e;simp only [ae] at ha;obtain ⟨b',hb',h5,h6,rfl⟩:=ha.2.2.2 _ _ _ hH;obtain ⟨_,hk⟩:=hE.blk _ _ hH;rcases hk with ⟨k1,k2⟩ |⟨b,c,T,fr,k1,k2,k3,k4,k5,k6,k7,k8⟩
    ·rw [hb'] at k1;cases k1
    ·rw [hb'] at k1;cases k1;have hm :(i.toNat+1)*sz t'<=xs.length*sz t':=Nat.mul_le_mul_right _ h6;rw [Nat.add_mul] at hm
     have:=rW ht k2 (p:=i.toNat*sz t') (n:=sz t') (by omega) (js h6 (k8 _ h6)) h
     simpa [Instr.loadAt,Instr.sureAddr] using this
   ·cases h
  ·cases h
 ·cases h
theorem cC {E:Env} {x:V} {v:Value} (h:ae E x v) {xs:List V} (hc:cellsOf x=some xs):ai E xs v.cells.toList:=by
 have one :∀ {y:V},y=x->v.cells=#[v]->ai E [y] v.cells.toList:=fun e hv=>by rw [hv];subst e;simp [ai,h]
 cases x <;> simp only [cellsOf,Option.some.injEq,reduceCtorEq] at hc
 case agg cs=>
  simp only [ae] at h;obtain ⟨l,rfl,h⟩:=h;subst hc;exact h
 all_goals
  have ho:v.oneCell'=true:=jf rfl h;subst hc;refine one rfl ?_;cases v <;> first|rfl |(simp [Value.oneCell'] at ho)
theorem vu {E:Env} :∀ {xs:List V} {vs:List Value},xs.all V.one=true->ai E xs vs->∀ v∈vs,v.oneCell'=true
 | [],[],_,_,v,hv=>by cases hv
 | _::_,[],_,h,_,_=>by simp [ai] at h
 | [],_::_,_,h,_,_=>by simp [ai] at h
 | x::xs,u::us,ho,h,v,hv=>by
  simp only [List.all_cons,Bool.and_eq_true] at ho;simp only [ai] at h
  cases hv with
  | head=>exact jf ho.1 h.1
  | tail _ hv=>exact vu ho.2 h.2 v hv
theorem yQ {B:aK} {E:Env} (hE:aM B E) {P:Program} {t:TypeId} {td:TD} (ht:cy P t td) {a x:V} {av xv:Value} (ha:ae E a av) (hx:ae E x xv) (m:Nat) {ps:List Ob} {dh:List (Nat×bd)} (h:rO td E.H a x = .skip ps dh) :
  ∃ w' E',(Instr.storeAt t av xv).run P E.w = .ok () w'/\Good B E m dh w' E':=by
 unfold rO at h;split at h
 ·cases h
 rename_i xs hxs;split at h
 case isFalse=>cases h
 rename_i hlen;obtain ⟨hlen,hone⟩:=hlen;have hvs:=cC hx hxs;have hvl:xv.cells.toList.length=td.size:=by rw [<-bk hvs];exact hlen
 have hvl':xv.cells.size=td.size:=by simpa using hvl
 have h1c:=vu hone hvs
 have run :∀ (b o:Nat) (c:Array Value) (T:TypeId) (fr:Nat×Nat),E.w.heap[b]?=some (.cells c T fr)->sq fr c.size->o+td.size<=c.size->
   (Instr.storeAt t (.pointer (some ⟨b,o,none⟩)) xv).run P E.w = .ok () (E.w.setCells b o xv.cells.toList):=fun b o c T fr hb hn hsz=>by
  have:=run_storeCells_cells (P:=P) b o xv.cells.toList 0 E.w (fun j hj=>by rw [iR hb];simp;omega) (fun j hj=>pG hb hn (by omega)) h1c
  simp only [Instr.storeAt,Instr.sureAddr,storeVar,Sem.run_bind,Sem.run_pure,Result.andThen_ok,ht.sizeOf,hvl',ne_eq,not_true_eq_false,if_false,this,Nat.add_zero]
 split at h
 ·rename_i hh off;split at h
  ·rename_i cs hH;split at h
   ·rename_i hsz;cases h;obtain ⟨b,c,T,fr,h1,h2,h3,h4,h5⟩:=hE.blk _ _ hH;simp only [ae] at ha;obtain ⟨b',hb',rfl⟩:=ha.2.2 _ hH;rw [h1] at hb';cases hb';have hcl:cs.length=c.size:=by rw [bk h5];simp
    obtain ⟨c',g1,g2⟩:=eP b xv.cells.toList off E.w c h2 (by omega)
    have hcs:c'.size=c.size:=by
     have:=congrArg List.length g2
     simp at this;omega
    obtain ⟨R,X⟩:=nX hE hh (.cells (cJ cs off xs)) (some b) (E.w.setCells b off xv.cells.toList) E.U (fun _ h=>h) (hE.used _ _ hH)
     (ee b (fun b1=>some b=some b1) rfl _ _ _) (fun b1 e=>by cases e;exact .inr ⟨h1,_,hH,rfl⟩) (fun b1 e=>by cases e;exact h4) (fun _ _ _=>⟨⟨cs,hH⟩,h1.symm⟩) (fun _ _ _ _ e=>by cases e)
     (fun X=>⟨b,c',T,fr,aE _ _ _,g1,ko h3 hcs,h4,by
      rw [g2]
      exact jP (bD X _ _ h5) (bD X _ _ hvs) off⟩)
    exact ⟨_,_,run b off c T fr h2 h3 (by omega),R,X,rfl,(cL _ _ _).symm,fun _ h=> .inl h⟩
   ·cases h
  ·cases h
 ·rename_i hh ver i off;split at h
  ·rename_i ver' t' ys hH;split at h
   ·rename_i e;subst e;dsimp only at h;split at h
    ·rename_i hsz;split at h
     ·rename_i y hy;cases h;simp only [ae] at ha;obtain ⟨b',hb',h5,h6,rfl⟩:=ha.2.2.2 _ _ _ hH;obtain ⟨hu,hk⟩:=hE.blk _ _ hH;rcases hk with ⟨k1,k2⟩ |⟨b,c,T,fr,k1,k2,k3,k4,k5,k6,k7,k8⟩
      ·rw [hb'] at k1;cases k1
      rw [hb'] at k1;cases k1;have hm :(i.toNat+1)*sz t'<=ys.length*sz t':=Nat.mul_le_mul_right _ h6;rw [Nat.add_mul] at hm;have hbd:i.toNat*sz t'+off+xv.cells.toList.length<=c.size:=by omega
      obtain ⟨c',g1,g2⟩:=eP b' xv.cells.toList (i.toNat*sz t'+off) E.w c k2 hbd
      have hcs:c'.size=c.size:=by
       have:=congrArg List.length g2
       simp at this;omega
      obtain ⟨R,X⟩:=nX hE hh (.row ver true t' (ys.set i.toNat y)) (some b') (E.w.setCells b' (i.toNat*sz t'+off) xv.cells.toList) E.U (fun _ h=>h) (hE.used _ _ hH)
       (ee b' (fun b1=>some b'=some b1) rfl _ _ _) (fun b1 e=>by cases e;exact .inr ⟨hb',_,hH,rfl⟩) (fun b1 e=>by cases e;exact k4 rfl) (fun _ e _=>by cases e)
       (fun ver2 rw2 t2 xs2 e _ _=>by
        cases e;refine ⟨true,ys,hH,by simp,hb'.symm,fun b1 c1 T1 fr1 e1 e2=>?_⟩;rw [hb'] at e1;cases e1;rw [k2] at e2;cases e2
        exact ⟨c',T,fr,g1,hcs⟩)
       (fun X=>⟨hu,.inr ⟨b',c',T,fr,aE _ _ _,g1,ko k3 hcs,fun _=>k4 rfl,(fun e=>by cases e),by simp;omega,by simpa using k7,fun j hj=>by
        have hj':j<ys.length:=by simpa using hj
        by_cases hji:j=i.toNat
        ·subst hji;rw [List.getElem_set_self];have hold:=js h6 (k8 _ h6);have hnew:=jP hold hvs off;rw [<-DP c c' (i.toNat*sz t') (sz t') off xv.cells.toList (by omega) (by omega) g2] at hnew;exact (dK hE hy hnew).ext X.s X.keepS
        ·rw [List.getElem_set_ne (Ne.symm hji)]
         have hd:j*sz t'+sz t'<=i.toNat*sz t'+off\/i.toNat*sz t'+off+xv.cells.toList.length<=j*sz t':=by
          rcases Nat.lt_or_gt_of_ne hji with hlt|hgt
          ·have:=Nat.mul_le_mul_right (sz t') (show j+1<=i.toNat from hlt)
           rw [Nat.add_mul] at this;omega
          ·have:=Nat.mul_le_mul_right (sz t') (show i.toNat+1<=j from hgt)
           rw [Nat.add_mul] at this;omega
         rw [za c c' (j*sz t') (sz t') _ _ hbd hd g2]
         exact (k8 j hj').ext X.s X.keepS⟩⟩)
      exact ⟨_,_,run b' _ c T fr k2 k3 (by omega),R,X,rfl,(cL _ _ _).symm,fun _ h=> .inl h⟩
     ·cases h
    ·cases h
   ·cases h
  ·cases h
 ·cases h
theorem ue {B:aK} {E:Env} (hE:aM B E) (m:Nat) (hm :¬ E.U m) (k:bd) (c:Array Value) (T:TypeId)
  (hb :∀ E',Ext E E'->E'.U m->E'.ρ m=some E.w.heap.size->E'.w.heap[E.w.heap.size]?=some (.cells c T (0,0))->¬ E'.S E.w.heap.size->E'.S=E.S->Ho E' m k)
  (U':Nat->Prop) (hU :∀ n,U' n↔E.U n\/n=m) (hna:k.Fh=false:=by rfl) :
  ∃ E',Good B E m [(m,k)] { E.w with heap:=E.w.heap.push (.cells c T (0,0)) } E'/\E'.U m/\E'.ρ m=some E.w.heap.size/\E'.w.heap[E.w.heap.size]?=some (.cells c T (0,0)):=by
 have hS :¬ E.S E.w.heap.size:=fun h=>Nat.lt_irrefl _ (hE.stab _ h);have hget :(E.w.heap.push (.cells c T (0,0)))[E.w.heap.size]?=some (.cells c T (0,0)):=by simp
 obtain ⟨R,X⟩:=nX hE m k (some E.w.heap.size) { E.w with heap:=E.w.heap.push (.cells c T (0,0)) } U' (fun n h=>(hU n).2 (.inl h)) ((hU m).2 (.inr rfl))
  ⟨rfl,rfl,rfl,by simp,fun b hb' _=>Below.heap_alloc E.w _ b hb'⟩ (fun b e=>by cases e;exact .inl ⟨Nat.le_refl _,by simp⟩) (fun b e=>by cases e;exact hS)
  (fun _ _ h=>absurd h hm) (fun _ _ _ _ _ h _=>absurd h hm)
  (fun X=>hb _ X ((hU m).2 (.inr rfl)) (aE _ _ _) hget hS rfl) (fun _ _ _ _ h _=>absurd h hm) (fun _ _ h=>absurd h hm) hna
 refine ⟨_,⟨R,X,rfl,(cL _ _ _).symm,fun n h=>?_⟩,(hU m).2 (.inr rfl),aE _ _ _,hget⟩;rcases (hU n).1 h with h|h
 ·exact .inl h
 ·exact .inr ⟨by omega,by unfold KN;omega⟩
theorem Be {B:aK} {E:Env} (hE:aM B E) (m:Nat) (hm :¬ E.U m) (cs:List V) (c:Array Value) (T:TypeId) (hc:ai E cs c.toList) :
  ∃ E',Good B E m [(m,.cells cs)] { E.w with heap:=E.w.heap.push (.cells c T (0,0)) } E'/\ae E' (.ptr m 0) (.pointer (some ⟨E.w.heap.size,0,none⟩)):=by
 obtain ⟨E',G,h1,h2,h3⟩:=ue hE m hm (.cells cs) c T (fun E' X hu hρ hw hS _=>⟨_,c,T,(0,0),hρ,hw,fun i _ h=>by simp at h,hS,bD X _ _ hc⟩) (fun n=>E.U n\/n=m) (fun _=>Iff.rfl);refine ⟨E',G,?_⟩;simp only [ae];exact ⟨h1,⟨_,rfl⟩,fun _ _=>⟨_,h2,rfl⟩⟩
theorem SO {B:aK} {E:Env} (hE:aM B E) (m:Nat) (hm :¬ E.U m) (t:Ty) (xs:List (Den t)) (c:Array Value) (T:TypeId) (cap:Nat) (hcap:c.size=cap*sz t) (hlc:xs.length<=cap) (hl:xs.length<=aW)
  (hx :∀ (i:Nat) (h:i<xs.length),Rd E.S E.w t xs[i] (gR c (i*sz t) (sz t))) :
  ∃ E',Good B E m [(m,.row m true t xs)] { E.w with heap:=E.w.heap.push (.cells c T (0,0)) } E'/\ae E' (.osl m m) (.slice (some ⟨E.w.heap.size,0,none⟩) xs.length cap):=by
 have hsz:xs.length*sz t<=c.size:=by rw [hcap];exact Nat.mul_le_mul_right _ hlc
 obtain ⟨E',G,h1,h2,h3⟩:=ue hE m hm (.row m true t xs) c T
  (fun E' X hu hρ hw hS e=>⟨hu,.inr ⟨_,c,T,(0,0),hρ,hw,(fun i _ h=>by simp at h),(fun _=>hS),(fun e=>by cases e),hsz,hl,fun i hi=>(hx i hi).ext X.s X.keepS⟩⟩) (fun n=>E.U n\/n=m) (fun _=>Iff.rfl)
 refine ⟨E',G,?_⟩;simp only [ae];refine ⟨h1,h1,⟨_,_,_,rfl⟩,fun rw t' xs' hH=> .inr ⟨_,cap,c,T,(0,0),h2,?_⟩⟩;rw [G.h,cL,aE] at hH;cases hH;exact ⟨rfl,h3,hcap,hlc⟩
theorem nL (k:IntKind) (n:Int):ok k (k.wrap n):=by unfold ok IntKind.wrap IntKind.min IntKind.max;cases k <;> simp only [IntKind.bits,IntKind.signed] <;> simp <;>(try split) <;> omega
theorem SZ (k:IntKind):k.min<=0/\0<=k.max:=by unfold IntKind.min IntKind.max;cases k <;> simp [IntKind.bits,IntKind.signed]
theorem KC {a b:Int} (h0:0<=a):a.tmod b<=a:=by have h1:=Int.tmod_nonneg b h0;have h2:=Int.natAbs_tmod a b;have h3:=Nat.mod_le a.natAbs b.natAbs;omega
theorem Uh {k:IntKind} {a b:Int} (h:ok k a):ok k (a.tmod b):=by
 have hz:=SZ k;unfold ok at *;rcases Int.le_total 0 a with h0|h0
 ·have h1:=Int.tmod_nonneg b h0;have h2:=KC (b:=b) h0;omega
 ·have e:a.tmod b = -((-a).tmod b):=by rw [Int.neg_tmod];omega
  have h0':0<= -a:=by omega
  have h1:=Int.tmod_nonneg b h0';have h2:=KC (b:=b) h0';omega
theorem nq {n:Nat} (h:n<=aW):ok .i64 (n:Int):=by unfold ok IntKind.min IntKind.max aW at *;simp [IntKind.bits,IntKind.signed];omega
variable {P:Program}
theorem nG {fields:Array Field} {fs:List (Nat×TypeId)} (h:fields.toList.map (fun f=>(f.offset,f.type))=fs) {i o ft:Nat} (hf:fs[i]?=some (o,ft)) :
  ∃ fl,fields[i]?=some fl/\fl.offset=o/\fl.type=ft:=by
 subst h;rw [List.getElem?_map] at hf
 cases hx:fields.toList[i]? with
 | none=>rw [hx] at hf;simp at hf
 | some fl=>rw [hx] at hf;simp at hf;exact ⟨fl,by simpa using hx,hf.1,hf.2⟩
theorem yK {E:Env} {tb:bG} (hT:cn P tb) {t:TypeId} {td:TD} (ht:cy P t td) {x:V} {xv:Value} (hx:ae E x xv) {f:Nat} {ps:List Ob} {v:V} {dh:List (Nat×bd)}
  (h:vB tb td x f = .val ps v dh) :
  dh=[]/\∃ v',(Instr.fieldAt t xv f).run P E.w = .ok v' E.w/\ae E v v':=by
 unfold vB at h;split at h
 case h_2=>cases h
 rename_i fs hk;have hkd:=ht.kind;rw [hk] at hkd;obtain ⟨fields,hu,hfs⟩:=hkd;split at h
 case h_2=>cases h
 rename_i o ft hf;obtain ⟨fl,h1,h2,h3⟩:=nG hfs hf;split at h
 case h_2=>cases h
 rename_i tf htf;have htf':=hT _ _ htf;split at h
 case isTrue=>cases h
 rename_i hsz
 have run :∀ (b off:Nat),(Instr.fieldAt t (.pointer (some ⟨b,off,none⟩)) f).run P E.w = .ok (.pointer (some ⟨b,off+o,none⟩)) E.w:=fun b off=>by simp [Instr.fieldAt,run_underlying hu,h1,Instr.sureAddr,fieldPlace,h3,htf'.sizeOf,hsz,cr,h2]
 have run' :∀ (a:Addr),(Instr.fieldAt t (.pointer (some a)) f).run P E.w = .ok (.pointer (some (a.add o))) E.w:=fun a=>by simp [Instr.fieldAt,run_underlying hu,h1,Instr.sureAddr,fieldPlace,h3,htf'.sizeOf,hsz,h2]
 split at h
 ·rename_i hh off;cases h;refine ⟨rfl,?_⟩;simp only [ae] at hx ⊢;obtain ⟨a,rfl⟩:=hx.2.1;refine ⟨_,run' a,?_⟩;refine ⟨hx.1,⟨_,rfl⟩,fun cs hcs=>?_⟩;obtain ⟨b,hb,he⟩:=hx.2.2 cs hcs;cases he;exact ⟨b,hb,by rw [cr]⟩
 ·rename_i t' xs i off;cases h;refine ⟨rfl,?_⟩;simp only [ae] at hx ⊢;obtain ⟨b,o',c,T,fr,h1,h2,h3,h4,h5,h6,rfl⟩:=hx;exact ⟨_,run _ _,b,o',c,T,fr,h1,h2,h3,h4,h5,h6,by rw [Nat.add_assoc]⟩
 ·rename_i hh ver i off;cases h;refine ⟨rfl,?_⟩;simp only [ae] at hx ⊢;obtain ⟨a,rfl⟩:=hx.2.2.1;refine ⟨_,run' a,?_⟩;refine ⟨hx.1,hx.2.1,⟨_,rfl⟩,fun rw t' xs hcs=>?_⟩;obtain ⟨b,hb,hi,hl,he⟩:=hx.2.2.2 _ _ _ hcs;cases he;exact ⟨b,hb,hi,hl,by rw [cr];simp [Nat.add_assoc]⟩
 ·cases h
end
section
open Go.RowKit
variable {P:Program}
theorem xE {E:Env} {t:TypeId} {td:TD} (ht:cy P t td) {cs:List V} {l:Array Value} (hcs:ai E cs l.toList) {off:Nat} {ps:List Ob} {v:V} {dh:List (Nat×bd)} (h:ld td cs off = .val ps v dh) :
  dh=[]/\∃ v',(part t l off).run P E.w = .ok v' E.w/\ae E v v':=by
 unfold ld at h;split at h
 ·rename_i hagg;split at h
  ·cases h;refine ⟨rfl,.agg (l.extract off (off+td.size)),?_,?_⟩
   ·simp [part,ht.isAgg,hagg,ht.sizeOf]
   ·simp only [ae];refine ⟨_,rfl,?_⟩
    have:=kK (iL hcs off) td.size
    have e :(l.extract off (off+td.size)).toList =(l.toList.drop off).take td.size:=by simp [Array.toList_extract,List.extract]
    rw [e];exact this
  ·cases h
 ·rename_i hagg;split at h
  ·rename_i u hu;cases h;obtain ⟨v',h1,h2⟩:=eQ hcs off v hu;have hagg':td.kind.agg=false:=by simpa using hagg
   refine ⟨rfl,v',?_,h2⟩;have h1':l[off]?=some v':=by simpa using h1
   simp [part,ht.isAgg,hagg',h1']
  ·cases h
theorem tt {E:Env} {tb:bG} (hT:cn P tb) {t:TypeId} {td:TD} (ht:cy P t td) {x:V} {xv:Value} (hx:ae E x xv) {f:Nat} {ps:List Ob} {v:V} {dh:List (Nat×bd)}
  (h:jY tb td x f = .val ps v dh):dh=[]/\∃ v',(Instr.field t xv f).run P E.w = .ok v' E.w/\ae E v v':=by
 unfold jY at h;split at h
 case h_2=>cases h
 rename_i fs hk;have hkd:=ht.kind;rw [hk] at hkd;obtain ⟨fields,hu,hfs⟩:=hkd;split at h
 case h_2=>cases h
 rename_i o ft hf;obtain ⟨fl,h1,h2,h3⟩:=nG hfs hf;split at h
 case h_2=>cases h
 rename_i tf htf;split at h
 case h_2=>cases h
 rename_i cs;simp only [ae] at hx;obtain ⟨l,rfl,hl⟩:=hx;obtain ⟨e,v',hr,hv⟩:=xE (hT _ _ htf) hl h;refine ⟨e,v',?_,hv⟩;simp [Instr.field,run_underlying hu,h1,asAgg,h3,h2,hr]
theorem yM {B:aK} {E:Env} (hE:aM B E) {tb:bG} (hT:cn P tb) {t:TypeId} {td:TD} (ht:cy P t td) {x i:V} {xv iv:Value} (hx:ae E x xv) (hi:ae E i iv) {ps:List Ob} {v:V} {dh:List (Nat×bd)}
  (h:rL tb td E.H x i = .val ps v dh) (hps :∀ p∈ps,p.holds):dh=[]/\∃ v',(Instr.indexAt t xv iv).run P E.w = .ok v' E.w/\ae E v v':=by
 unfold rL at h;split at h
 case h_2=>cases h
 rename_i k n;simp only [ae] at hi;obtain ⟨rfl,_⟩:=hi;have hkd:=ht.kind;split at h
 ·rename_i e hk;rw [hk] at hkd;simp only [bJ] at hkd;split at h
  case h_2=>cases h
  rename_i te hte;have hte':=hT _ _ hte;split at h
  ·rename_i t' xs;split at h
   case isFalse=>cases h
   rename_i hsz;cases h;have hp:=hps _ (List.mem_singleton.2 rfl);simp only [Ob.holds] at hp;refine ⟨rfl,?_⟩;simp only [ae] at hx;generalize hl:[xv]=l at hx
   cases hx with
   | nil=>simp at hp;omega
   | @slice _ _ b o cap c T fr h1 h2 h3 h4 h5 h6=>
    cases hl;refine ⟨.pointer (some ⟨b,o+n.toNat*sz t',none⟩),?_,?_⟩
    ·simp [Instr.indexAt,asIntOf,run_underlying hkd,hte'.sizeOf,hp.1,hp.2,cr,hsz]
    ·simp only [ae];exact ⟨b,o,c,T,fr,h1,h2,h3,h6,hp.1,by omega,rfl⟩
  ·rename_i hh ver;split at h
   case h_2=>cases h
   rename_i ver' rw' t' xs hH;split at h
   case isFalse=>cases h
   rename_i e1;subst e1;split at h
   case isFalse=>cases h
   rename_i hsz;cases h;have hp:=hps _ (List.mem_singleton.2 rfl);simp only [Ob.holds] at hp;refine ⟨rfl,?_⟩;have hx0:=hx;simp only [ae] at hx0;rcases nr hE hH hx with ⟨_,h3,a,rfl⟩ |⟨b,cap,c,T,fr,h3,rfl,h5,h6,hcap,h7,h8,h9,h10,h11,h12⟩
   ·subst h3;simp at hp;omega
   ·refine ⟨.pointer (some ⟨b,n.toNat*sz t',none⟩),?_,?_⟩
    ·simp [Instr.indexAt,asIntOf,run_underlying hkd,hte'.sizeOf,hp.1,hp.2,cr,hsz]
    ·simp only [ae];refine ⟨hx0.1,hx0.2.1,⟨_,rfl⟩,fun rw2 t2 xs2 hH2=>?_⟩;rw [hH] at hH2;cases hH2;exact ⟨b,h3,hp.1,by omega,by simp⟩
  ·cases h
 ·rename_i len e hk;rw [hk] at hkd;simp only [bJ] at hkd;split at h
  case h_2=>cases h
  rename_i te hte;have hte':=hT _ _ hte;split at h
  case h_2=>cases h
  rename_i hh off;cases h;have hp:=hps _ (List.mem_singleton.2 rfl);simp only [Ob.holds] at hp;refine ⟨rfl,?_⟩;simp only [ae] at hx;obtain ⟨hU,⟨a,rfl⟩,hx⟩:=hx;refine ⟨.pointer (some (a.add (n.toNat*te.size))),?_,?_⟩
  ·simp [Instr.indexAt,asIntOf,run_underlying hkd,hte'.sizeOf,hp.1,hp.2,Instr.sureAddr]
  ·simp only [ae];refine ⟨hU,⟨_,rfl⟩,fun cs hcs=>?_⟩;obtain ⟨b,hb,he⟩:=hx cs hcs;cases he;exact ⟨b,hb,by rw [cr]⟩
 ·cases h
def jg (E:Env):Option V->Option Value->Prop
 | none,none=>True
 | some x,some v=>ae E x v
 | _,_=>False
theorem iI {E:Env} {lo hi:Option V} {lov hiv:Option Value} (hlo:jg E lo lov) (hhi:jg E hi hiv) (vE:Bool) (len cap:Nat) (hlc:len<=cap) {l h:Int} (el:Ew 0 lo=some l) (eh:Ew len hi=some h)
  (h0:0<=l) (h1:l<=h) (h2:h<=(len:Int)) :(Instr.sliceBounds vE len cap lov hiv none).run P E.w = .ok (l.toNat,h.toNat,cap) E.w:=by
 have eH :(match hiv with|some v=>Instr.sliceBound v cap (if vE then .sliceAcap else .sliceAlen)|none=>pure len:Sem Nat).run P E.w = .ok h.toNat E.w:=by
  cases hi with
  | none=>
   cases hiv with
   | none=>simp only [Ew,Option.some.injEq] at eh;subst eh;simp
   | some v=>simp [jg] at hhi
  | some x=>
   cases hiv with
   | none=>simp [jg] at hhi
   | some v=>cases x <;> simp only [Ew,reduceCtorEq,Option.some.injEq] at eh;subst eh;simp only [jg,ae] at hhi;obtain ⟨rfl,_⟩:=hhi;simp [Instr.sliceBound,asIntOf,show (0:Int)<=_ from Int.le_trans h0 h1,show _<=(cap:Int) from Int.le_trans h2 (by omega)]
 have eL :(match lov with|some v=>Instr.sliceBound v h.toNat .sliceB|none=>pure 0:Sem Nat).run P E.w = .ok l.toNat E.w:=by
  cases lo with
  | none=>
   cases lov with
   | none=>simp only [Ew,Option.some.injEq] at el;subst el;simp
   | some v=>simp [jg] at hlo
  | some x=>
   cases lov with
   | none=>simp [jg] at hlo
   | some v=>cases x <;> simp only [Ew,reduceCtorEq,Option.some.injEq] at el;subst el;simp only [jg,ae] at hlo;obtain ⟨rfl,_⟩:=hlo;have hh :((h.toNat:Nat):Int)=h:=Int.toNat_of_nonneg (Int.le_trans h0 h1);simp only [Instr.sliceBound,asIntOf,Sem.run_bind,Sem.run_pure,Result.andThen_ok,hh,h0,h1,and_self,if_true]
 unfold Instr.sliceBounds;cases hiv <;> cases lov <;> simp_all
theorem I4 {B:aK} {E:Env} (hE:aM B E) (m:Nat) {h ver:Nat} {rw:Bool} {t:Ty} {xs:List (Den t)} (hH:E.H h=some (.row ver rw t xs)) :
  ∃ E',Good B E m [(h,.row ver false t xs)] E.w E'/\E'.ρ=E.ρ/\∀ b,E.ρ h=some b->E'.S b:=by
 obtain ⟨hu,hk⟩:=hE.blk _ _ hH
 let S':Nat->Prop:=fun b=>E.S b\/E.ρ h=some b
 have hold :∀ h' k b,h'≠h->E.H h'=some k->fJ E h' k b->¬ E.S b->¬ S' b:=fun h' k b hne hh' hb hs hs'=>by
  rcases hs' with hs'|hs'
  ·exact hs hs'
  ·exact hne (hE.inj' _ _ _ _ _ hh' hH hb (.inl hs'))
 have q :∀ h' k' b,nY E.H h (some (.row ver false t xs)) h'=some k'->fJ ⟨E.U,E.ρ,S',E.w,nY E.H h (some (.row ver false t xs))⟩ h' k' b->∃ k,E.H h'=some k/\fJ E h' k b:=fun h' k' b hx hb=>by
  by_cases e:h'=h
  ·subst e;simp only [aE,Option.some.injEq] at hx;subst hx;exact ⟨_,hH,.inl (hb.of rfl)⟩
  ·simp only [bL _ _ e] at hx;exact ⟨_,hx,hb⟩
 have X:Ext E ⟨E.U,E.ρ,S',E.w,nY E.H h (some (.row ver false t xs))⟩:=by
  refine ⟨fun _ h=>h,fun _ h=> .inl h,fun _ _=>rfl,fun h' cs' _ hx=>?_,fun h' ver' rw' t' xs' _ _ hx=>?_,fun h' ver' esz cs' _ _ hx=>?_,fun h' es _ hx=>?_,fun h' kk t x' _ hx=>?_⟩
  case refine_5=>
   by_cases e:h'=h
   ·subst e;simp only [aE] at hx;cases hx
   ·simp only [bL _ _ e] at hx;exact ⟨⟨x',hx⟩,rfl⟩
  ·by_cases e:h'=h
   ·subst e;simp only [aE] at hx;cases hx
   ·simp only [bL _ _ e] at hx;exact ⟨⟨cs',hx⟩,rfl⟩
  ·by_cases e:h'=h
   ·subst e;simp only [aE,Option.some.injEq] at hx;cases hx;exact ⟨rw,xs,hH,rfl,rfl,fun b c T fr _ hw=>⟨c,T,fr,hw,rfl⟩⟩
   ·simp only [bL _ _ e] at hx;exact ⟨rw',xs',hx,rfl,rfl,fun b c T fr _ hw=>⟨c,T,fr,hw,rfl⟩⟩
  ·by_cases e:h'=h
   ·subst e;simp only [aE] at hx;cases hx
   ·simp only [bL _ _ e] at hx;exact ⟨cs',hx,rfl,rfl,fun b c T fr _ hw=>⟨c,T,fr,hw,rfl⟩⟩
  ·by_cases e:h'=h
   ·subst e;simp only [aE] at hx;cases hx
   ·simp only [bL _ _ e] at hx;exact ⟨⟨es,hx⟩,rfl⟩
 have R:aM B ⟨E.U,E.ρ,S',E.w,nY E.H h (some (.row ver false t xs))⟩:=by
  refine ⟨fun h' b hx=>?_,fun b hs=>?_,fun h' k b hx hb=>?_,fun h1 h2 k1 k2 b a1 a2 b1 b2=>?_,fun h' k hx=>?_,hE.keeps,fun h' k b hx hb=>?_,fun b hs=> .inl (hE.s0 b hs),fun b hs=>?_⟩
  ·by_cases e:h'=h
   ·subst e;exact hE.used _ _ hH
   ·simp only [bL _ _ e] at hx;exact hE.used _ _ hx
  ·rcases hs with hs|hs
   ·exact hE.stab b hs
   ·exact hE.lt _ _ _ hH hs
  ·obtain ⟨_,q1,q2⟩:=q _ _ _ hx hb;exact hE.lt' _ _ _ q1 q2
  ·obtain ⟨_,q1,c1⟩:=q _ _ _ a1 b1;obtain ⟨_,q2,c2⟩:=q _ _ _ a2 b2;exact hE.inj' _ _ _ _ _ q1 q2 c1 c2
  ·by_cases e:h'=h
   ·subst e;simp only [aE,Option.some.injEq] at hx;subst hx;refine ⟨hu,?_⟩;rcases hk with ⟨h1,h2⟩ |⟨b,c,T,fr,h1,h2,h3,h4,h5,h6,h7,h8⟩
    ·exact .inl ⟨h1,h2⟩
    ·exact .inr ⟨b,c,T,fr,h1,h2,h3,(fun e=>by cases e),fun _=> .inr h1,h6,h7,fun i hi=>(h8 i hi).ext X.s X.keepS⟩
   ·simp only [bL _ _ e] at hx;exact di X rfl (fun _ _=>rfl) (fun b hb _ hs=>hold _ _ _ e hx hb hs) (hE.blk _ _ hx)
  ·obtain ⟨_,q1,q2⟩:=q _ _ _ hx hb;exact hE.own' _ _ _ q1 q2
  ·rcases hs with hs|hs
   ·exact hE.sb b hs
   ·exact .inr (hE.own _ _ _ hH hs)
 exact ⟨_,⟨R,X,rfl,(cL _ _ _).symm,fun _ h=> .inl h⟩,rfl,fun b hb=> .inr hb⟩
theorem Rd.cut {S:Nat->Prop} {w:World} {t:Ty} {xs:List (Den t)} {b o:Nat} {c:Array Value} {T:TypeId} {fr:Nat×Nat} (h1:S b) (h2:w.heap[b]?=some (.cells c T fr)) (h3:o+xs.length*sz t<=c.size) (h5:xs.length<=aW)
  (h6 :∀ (i:Nat) (h:i<xs.length),Rd S w t xs[i] (gR c (o+i*sz t) (sz t))) {l h cap:Nat} (hl:l<=h) (hh:h<=xs.length) (hc:h<=cap) (o':Nat) (ho':o'=o+l*sz t\/(cap=l)) (ho'':cap=l->o'<=c.size) :
  Rd S w (.slice t) ((xs.take h).drop l) [.slice (some ⟨b,o',none⟩) (h - l) (cap - l)]:=by
 have hlen :((xs.take h).drop l).length=h - l:=by simp;omega
 rcases ho' with rfl|rfl
 ·rw [<-hlen];have hm:h*sz t<=xs.length*sz t:=Nat.mul_le_mul_right _ hh;have hm2 :(h - l)*sz t+l*sz t=h*sz t:=by rw [<-Nat.add_mul];congr 1;omega
  refine .slice h1 h2 ?_ (by omega) (by omega) (fun i hi=>?_)
  ·rw [hlen];omega
  ·have hi':l+i<xs.length:=by omega
   have:=h6 (l+i) hi'
   rw [Nat.add_mul] at this;have e :((xs.take h).drop l)[i]=xs[l+i]:=by simp
   rw [e,Nat.add_assoc];exact this
 ·have :(xs.take h).drop cap=[]:=List.drop_eq_nil_of_le (by simp;omega);rw [this,show h - cap=0 by omega];exact .nil
theorem xX (s:ByteArray) (l h:Nat) (hs:s.size<=aW) :(s.extract l h).size<=aW:=by
 rw [ByteArray.size_extract]
 have:min h s.size<=s.size:=Nat.min_le_right _ _
 omega
theorem jS {tb:bG} (hT:cn P tb) {td:TD} {n:Nat} (h:lB tb td=some n) :∃ e te,td.kind = .slice e/\cy P e te/\te.size=n:=by
 unfold lB at h;split at h
 ·rename_i e hk;split at h
  ·rename_i te hte;cases h;exact ⟨e,te,hk,hT _ _ hte,rfl⟩
  ·cases h
 ·cases h
theorem rV {E:Env} {x:Option V} {v:Option Value} {n:Int} (h:AA n x=true) (hv:jg E x v) :∃ k,v=some (.int k n):=by
 unfold AA at h;split at h
 ·rename_i k k';simp only [beq_iff_eq] at h;subst h
  cases v with
  | none=>simp [jg] at hv
  | some v=>simp only [jg,ae] at hv;exact ⟨k,by rw [hv.1]⟩
 ·cases h
theorem yP {B:aK} {E:Env} (hE:aM B E) {tb:bG} (hT:cn P tb) {t:TypeId} {td:TD} (ht:cy P t td) (m:Nat) {x:V} {lo hi mx:Option V} {xv:Value} {lov hiv mxv:Option Value} (hx:ae E x xv) (hlo:jg E lo lov) (hhi:jg E hi hiv) (hmx:jg E mx mxv)
  {ps:List Ob} {v:V} {dh:List (Nat×bd)}
  (h:vC tb td E.H x lo hi mx = .val ps v dh) (hps :∀ p∈ps,p.holds) :∃ v' E',(Instr.sliceAt t xv lov hiv mxv).run P E.w = .ok v' E.w/\Good B E m dh E.w E'/\ae E' v v':=by
 have hkd:=ht.kind
 have eb :∀ (e:TypeId) (te:TD) (_:td.kind = .slice e) (_:cy P e te) (a:Option Addr) (len cap l h m:Nat),(Instr.sliceBounds true len cap lov hiv mxv).run P E.w = .ok (l,h,m) E.w->
   (Instr.sliceAt t (.slice a len cap) lov hiv mxv).run P E.w = .ok (.slice (if m=l then a else a.map (·.add (l*te.size))) (h - l) (m - l)) E.w:=fun e te hk hte a len cap l h m hr=>by
  rw [hk] at hkd;simp only [bJ] at hkd;simp [Instr.sliceAt,Instr.slice,run_underlying hkd,hr,hte.sizeOf]
 unfold vC at h;split at h
 ·rename_i k0 n0;split at h
  case isFalse=>cases h
  rename_i hc;obtain ⟨rfl,h1,h2,h3,h4⟩:=hc;cases h;obtain ⟨n,hn⟩:=Option.isSome_iff_exists.1 h3;obtain ⟨e,te,hk,hte,_⟩:=jS hT hn;obtain ⟨kl,rfl⟩:=rV h1 hlo;obtain ⟨kh,rfl⟩:=rV h2 hhi
  have hmv :∃ km,mxv=some (.int km 0):=by
   cases mxv with
   | none=>simp [jg] at hmx
   | some v=>simp only [jg,ae] at hmx;exact ⟨_,by rw [hmx.1]⟩
  obtain ⟨km,rfl⟩:=hmv
  have hsl :∃ a len cap,xv = .slice a len cap:=by
   cases x <;> simp only [Xa,Bool.false_eq_true] at h4 <;> simp only [ae] at hx
   ·exact ⟨_,_,_,hx⟩
   ·obtain ⟨a,hx⟩:=hx;exact ⟨_,_,_,hx⟩
   ·exact hx.2.2.1
   ·generalize hl:[xv]=l at hx
    cases hx with
    | nil=>cases hl;exact ⟨_,_,_,rfl⟩
    | slice=>cases hl;exact ⟨_,_,_,rfl⟩
  obtain ⟨a,len,cap,rfl⟩:=hsl;refine ⟨_,E,eb e te hk hte a len cap 0 0 0 (by simp [Instr.sliceBounds,Instr.sliceBound,asIntOf]),eN hE m,?_⟩;simp [ae]
 ·cases h
 ·have hmv:mxv=none:=by
   cases mxv with
   | none=>rfl
   | some v=>simp [jg] at hmx
  subst hmv;split at h
  ·rename_i s;split at h
   ·rename_i l hh hk el eh;cases h;have hp:=hps _ (List.mem_singleton.2 rfl);simp only [Ob.holds] at hp;simp only [ae] at hx;obtain ⟨rfl,hs⟩:=hx;rw [hk] at hkd;simp only [bJ] at hkd;have hr:=iI (P:=P) hlo hhi false s.size s.size (Nat.le_refl _) el eh hp.1 hp.2.1 hp.2.2;refine ⟨.string (s.extract l.toNat hh.toNat),E,?_,eN hE m,?_⟩
    ·simp [Instr.sliceAt,Instr.slice,run_underlying hkd,hr]
    ·simp only [ae];exact ⟨trivial,xX _ _ _ hs⟩
   ·cases h
  ·rename_i t' xs;split at h
   ·rename_i n l hh hn el eh;split at h
    case isFalse=>cases h
    rename_i hsz;subst hsz;cases h;have hp:=hps _ (List.mem_singleton.2 rfl);simp only [Ob.holds] at hp;obtain ⟨e,te,hk,hte,hts⟩:=jS hT hn;simp only [ae] at hx;generalize hl:[xv]=l0 at hx
    cases hx with
    | @nil _ a cap=>
     cases hl;simp only [List.length_nil] at hp eh;have e0:l=0:=by simp at hp;omega
     have e1:hh=0:=by simp at hp;omega
     subst e0;subst e1;refine ⟨_,E,eb e te hk hte a 0 cap 0 0 cap (iI (P:=P) hlo hhi true 0 cap (Nat.zero_le _) el eh (by omega) (by omega) (by omega)),eN hE m,?_⟩;simp only [ae];exact .nil
    | @slice _ _ b o cap c T fr h1 h2 h3 h4 h5 h6=>
     cases hl;refine ⟨_,E,eb e te hk hte _ _ cap _ _ cap (iI (P:=P) hlo hhi true xs.length cap h4 el eh hp.1 hp.2.1 hp.2.2),eN hE m,?_⟩;simp only [ae];split
     ·rename_i hcl;exact Rd.cut h1 h2 h3 h5 h6 (by omega) (by omega) (by omega) o (.inr hcl) (fun _=>by omega)
     ·simp only [Option.map_some,cr];exact Rd.cut h1 h2 h3 h5 h6 (by omega) (by omega) (by omega) _ (.inl (by rw [hts])) (fun hcl=>by contradiction)
   ·cases h
  ·rename_i h0 ver;split at h
   case h_2=>cases h
   rename_i ver' rw' t' xs hH;split at h
   case isFalse=>cases h
   rename_i e1;subst e1;split at h
   ·rename_i n l hh hn el eh;split at h
    case isFalse=>cases h
    rename_i hsz;subst hsz;cases h;have hp:=hps _ (List.mem_singleton.2 rfl);simp only [Ob.holds] at hp;obtain ⟨e,te,hk,hte,hts⟩:=jS hT hn;obtain ⟨E',G,hρ,hS⟩:=I4 hE m hH;rcases nr hE hH hx with ⟨_,h3,a,rfl⟩ |⟨b,cap,c,T,fr,h3,rfl,h5,h6,hcap,h7,h8,h9,h10,h11,h12⟩
    ·subst h3;simp only [List.length_nil] at hp eh;have e0:l=0:=by simp at hp;omega
     have e1:hh=0:=by simp at hp;omega
     subst e0;subst e1;refine ⟨_,E',eb e te hk hte a 0 0 0 0 0 (iI (P:=P) hlo hhi true 0 0 (Nat.zero_le _) el eh (by omega) (by omega) (by omega)),G,?_⟩;simp only [ae];exact .nil
    ·refine ⟨_,E',eb e te hk hte _ _ cap _ _ cap (iI (P:=P) hlo hhi true xs.length cap hcap el eh hp.1 hp.2.1 hp.2.2),G,?_⟩;have hw:E'.w.heap[b]?=some (.cells c T fr):=by rw [G.w];exact h5
     have h12' :∀ (i:Nat) (hi:i<xs.length),Rd E'.S E'.w t' xs[i] (gR c (0+i*sz t') (sz t')):=fun i hi=>by rw [Nat.zero_add];exact (h12 i hi).ext G.ext.s G.ext.keepS
     simp only [ae];split
     ·rename_i hcl;exact Rd.cut (hS b h3) hw (by omega) h11 h12' (by omega) (by omega) (by omega) 0 (.inr hcl) (fun _=>by omega)
     ·simp only [Option.map_some,cr];exact Rd.cut (hS b h3) hw (by omega) h11 h12' (by omega) (by omega) (by omega) _ (.inl (by rw [hts])) (fun hcl=>by contradiction)
   ·cases h
  ·cases h
end
section
open Go.RowKit
variable {P:Program}
theorem kJ {E:Env} {k:IntKind} {n:Int} (h:ok k n):ae E (.int k n) (.int k n):=by simp [ae,h]
theorem G8 {E:Env} (b:Bool):ae E (.bool b) (.bool b):=by simp [ae]
theorem vkb {E:Env} (b:Bool):ae E (.kb b) (.bool b):=by simp [ae]
theorem MT {E:Env} {s:ByteArray} (h:s.size<=aW):ae E (.str s) (.string s):=by simp [ae,h]
theorem yW {t:TypeId} (h:P.underlying t=some .bool) (d:Nat) (a b:Bool) (w:World) :(Op.equalIn (d+1) t (.bool a) (.bool b)).run P w = .ok (a==b) w:=by simp [Op.equalIn,run_underlying h]
theorem GF {t:TypeId} (h:P.underlying t=some .bool) (a b:Bool) (w:World) :(Op.equal t (.bool a) (.bool b)).run P w = .ok (a==b) w:=yW h 9999 a b w
theorem Pq (b:UInt8):ok .u8 (b.toNat:Int):=by
 have:=b.toNat_lt
 unfold ok IntKind.min IntKind.max;simp [IntKind.bits,IntKind.signed];omega
theorem iT (op:BinOp) (t:TypeId) (x y:Operand) (a b:Value) (w:World) (ha :∀ l,a≠ .agg l) (hn:a≠ .nilIface) :(eqGuard op t x y a b).run P w = .ok () w:=by unfold eqGuard;cases op <;> simp <;>(cases a <;> simp_all)
theorem ow {v:V} {vs:List V} {ks:List EK} (h:yx (v::vs)=some ks) :∃ k r,ekV v=some k/\yx vs=some r/\ks=k::r:=by
 simp only [yx] at h;split at h
 case h_2=>cases h
 rename_i k r h1 h2;cases h;exact ⟨k,r,h1,h2,rfl⟩
theorem kv {E:Env} {x:V} {v:Value} {k:EK} (hk:ekV x=some k) (h:ae E x v) :
  (∃ q n,x = .int q n/\k = .int q/\v = .int q n/\ok q n)\/(∃ b,Wq x=some b/\k = .bool/\v = .bool b/\(∀ q n,x≠ .int q n)/\∀ s,x≠ .str s)\/∃ s,x = .str s/\k = .str/\v = .string s/\s.size<=aW:=by
 cases x <;> simp only [ekV,reduceCtorEq,Option.some.injEq] at hk <;> subst hk <;> simp only [ae] at h
 ·exact .inl ⟨_,_,rfl,rfl,h.1,h.2⟩
 ·exact .inr (.inl ⟨_,rfl,rfl,h,by simp,by simp⟩)
 ·exact .inr (.inl ⟨_,rfl,rfl,h,by simp,by simp⟩)
 ·exact .inr (.inr ⟨_,rfl,rfl,h.1,h.2⟩)
theorem NZ {E:Env} :∀ (xs:List V) (vs:List Value) (ks:List EK),yx xs=some ks->ai E xs vs->oD ks vs
 | [],[],ks,h,_=>by simp only [yx,Option.some.injEq] at h;subst h;trivial
 | [],_::_,_,_,h=>by simp [ai] at h
 | _::_,[],_,_,h=>by simp [ai] at h
 | x::xs,v::vs,ks,h,hv=>by
  obtain ⟨k,r,h1,h2,rfl⟩:=ow h;simp only [ai] at hv;have ih:=NZ xs vs r h2 hv.2;rcases kv h1 hv.1 with ⟨q,n,rfl,rfl,rfl,h3⟩ |⟨b,_,rfl,rfl,_,_⟩ |⟨s,rfl,rfl,rfl,h3⟩
  ·exact ⟨rfl,by simp only [Lit.wf,Bool.and_eq_true,decide_eq_true_eq];exact h3,ih⟩
  ·exact ih
  ·exact ⟨Nat.le_trans h3 (by decide),ih⟩
theorem dB {a b:ByteArray} :(a.toList==b.toList)=true↔a.data.toList=b.data.toList:=by rw [beq_iff_eq,ByteArray.toList_eq,ByteArray.toList_eq]
theorem EO {E:Env} :∀ (xs ys:List V) (vs us:List Value) (ks:List EK),yx xs=some ks->yx ys=some ks->ai E xs vs->ai E ys us->(Cu xs ys=true↔vs.map nh=us.map nh)
 | [],[],[],[],_,_,_,_,_=>by simp [Cu]
 | [],y::ys,_,_,ks,h1,h2,_,_=>by obtain ⟨k,r,_,_,rfl⟩:=ow h2;simp [yx] at h1
 | x::xs,[],_,_,ks,h1,h2,_,_=>by obtain ⟨k,r,_,_,rfl⟩:=ow h1;simp [yx] at h2
 | [],[],_::_,_,_,_,_,h,_=>by simp [ai] at h
 | [],[],_,_::_,_,_,_,_,h=>by simp [ai] at h
 | _::_,_::_,[],_,_,_,_,h,_=>by simp [ai] at h
 | _::_,_::_,_,[],_,_,_,_,h=>by simp [ai] at h
 | x::xs,y::ys,v::vs,u::us,ks,h1,h2,hv,hu=>by
  obtain ⟨k,r,a1,a2,rfl⟩:=ow h1;obtain ⟨k',r',b1,b2,e⟩:=ow h2;cases e;simp only [ai] at hv hu;have ih:=EO xs ys vs us r a2 b2 hv.2 hu.2
  have h0:Z5 x y=true↔nh v=nh u:=by
   rcases kv a1 hv.1 with ⟨q,n,rfl,rfl,rfl,h3⟩ |⟨b,hb,rfl,rfl,hx1,hx2⟩ |⟨s,rfl,rfl,rfl,h3⟩
   ·rcases kv b1 hu.1 with ⟨q',n',rfl,h4,rfl,h5⟩ |⟨b,_,h4,_,_⟩ |⟨s,_,h4,_,_⟩
    ·cases h4;simp [Z5,nh]
    ·cases h4
    ·cases h4
   ·rcases kv b1 hu.1 with ⟨q',n',rfl,h4,rfl,h5⟩ |⟨b',hb',h4,rfl,_⟩ |⟨s,_,h4,_,_⟩
    ·cases h4
    ·have:Z5 x y =(b==b'):=by
      unfold Z5;split
      ·exact absurd rfl (hx1 _ _)
      ·exact absurd rfl (hx2 _)
      ·rw [hb,hb']
     rw [this];simp [nh]
    ·cases h4
   ·rcases kv b1 hu.1 with ⟨q',n',rfl,h4,rfl,h5⟩ |⟨b',hb',h4,rfl,_⟩ |⟨s',rfl,h4,rfl,_⟩
    ·cases h4
    ·cases h4
    ·simp only [Z5,dB,nh,Lit.string.injEq]
  simp only [Cu,Bool.and_eq_true,List.map_cons,List.cons.injEq,h0,ih]
theorem IW {E:Env} {t:TypeId} {td:TD} (ht:cy P t td) (hp:td.plain=true) {xs ys:List V} {cs ds:Array Value} (hx:ai E xs cs.toList) (hy:ai E ys ds.toList)
  (h1:yx xs=yx td.zero) (h2:yx ys=yx td.zero) :(Op.equal t (.agg cs) (.agg ds)).run P E.w = .ok (Cu xs ys) E.w/\∀ (op:BinOp) (xo yo:Operand),(eqGuard op t xo yo (.agg cs) (.agg ds)).run P E.w = .ok () E.w:=by
 have hp':=hp;unfold TD.plain at hp';simp only [Bool.and_eq_true] at hp';obtain ⟨hagg,hsome⟩:=hp';obtain ⟨ks,hks⟩:=Option.isSome_iff_exists.1 hsome;rw [hks] at h1 h2;have hB:=ht.eqk hp ks hks;simp only [eqB,Bool.and_eq_true,decide_eq_true_eq,Bool.not_eq_true'] at hB;obtain ⟨⟨hl,hkt⟩,hg⟩:=hB
 have len :∀ (zs:List V) (es:Array Value),yx zs=some ks->ai E zs es.toList->P.keyLits 9 t es.toList=some (es.toList.map nh)/\es.size=P.cellsOf t:=fun zs es hz hv=>by
  obtain ⟨a1,a2,a3⟩:=H6 (P:=P) 9 t ks [] hl es.toList (NZ zs _ ks hz hv)
  have h0:es.toList.drop (P.cellsOf t)=[]:=by
   cases hd:es.toList.drop (P.cellsOf t) with
   | nil=>rfl
   | cons v l=>rw [hd] at a2;simp [oD] at a2
  have h3:es.toList.length<=P.cellsOf t:=List.drop_eq_nil_iff.1 h0;rw [List.take_of_length_le h3] at a1;exact ⟨a1,by simp only [Array.length_toList] at h3 a3;omega⟩
 have formed :∀ es:Array Value,es.size=P.cellsOf t->(Value.agg es).formed P t=true:=fun es he=>by
  have hkd:=ht.kind;cases hk:td.kind <;> rw [hk] at hagg hkd <;> simp only [TK.agg,Bool.false_eq_true] at hagg <;> simp only [bJ] at hkd
  ·obtain ⟨fs,hu,_⟩:=hkd;simp [Value.formed,hu,he]
  ·simp [Value.formed,hkd,he]
 obtain ⟨c1,c2⟩:=len xs cs h1 hx;obtain ⟨d1,d2⟩:=len ys ds h2 hy;obtain ⟨r,hr,hiff⟩:=run_equalIn_deep (P:=P) 9991 9 t hkt E.w 9 9 (.agg cs) (.agg ds) _ _ (formed cs c2) (formed ds d2) (by simpa [Value.cells] using c1) (by simpa [Value.cells] using d1);have e:=EO xs ys cs.toList ds.toList ks h1 h2 hx hy
 have hre:r=Cu xs ys:=by
  cases hr2:r with
  | true=>exact (e.2 (hiff.1 hr2)).symm
  | false=>
   cases he:Cu xs ys with
   | false=>rfl
   | true=>rw [hiff.2 (e.1 he)] at hr2;cases hr2
 refine ⟨?_,fun op xo yo=>?_⟩
 ·rw [<-hre];exact hr
 ·unfold eqGuard;cases op <;> simp [hg]
theorem Fj {E:Env} {t:TypeId} {k:TK} (hk:bJ P t k) {x y:V} {xv yv:Value} (hx:ae E x xv) (hy:ae E y yv) (hc:wW k y=true) {v:V} (h:Fi k x=some v) :
  ∃ b:Bool,(Op.equal t xv yv).run P E.w = .ok b E.w/\ae E v (.bool b)/\(∀ l,xv≠ .agg l)/\xv≠ .nilIface/\(∀ q n,xv≠ .int q n)/\(∀ s,xv≠ .string s)/\(∀ q n,xv≠ .float q n)/\(∀ q a b,xv≠ .complex q a b):=by
 have sl :∀ e,P.underlying t=some (.slice e)->∀ (a:Option Addr) n c,(Op.equal t (.slice a n c) (.slice none 0 0)).run P E.w = .ok a.isNone E.w:=fun e hu a n c=>by
  have h :∀ d:Nat,(Op.equalIn (d+1) t (.slice a n c) (.slice none 0 0)).run P E.w = .ok a.isNone E.w:=fun d=>by cases a <;> simp [Op.equalIn,run_underlying hu]
  simp [Op.equal,Op.maxDepth,h 9999]
 have pt :∀ e,P.underlying t=some (.pointer e)->∀ (a:Option Addr),(Op.equal t (.pointer a) (.pointer none)).run P E.w = .ok a.isNone E.w:=fun e hu a=>by
  have h :∀ d:Nat,(Op.equalIn (d+1) t (.pointer a) (.pointer none)).run P E.w = .ok a.isNone E.w:=fun d=>by cases a <;> simp [Op.equalIn,run_underlying hu]
  simp [Op.equal,Op.maxDepth,h 9999]
 cases k <;> simp only [Fi,reduceCtorEq] at h
 case ptr e=>
  simp only [bJ] at hk;cases y <;> simp only [wW,Bool.false_eq_true] at hc;simp only [ae] at hy;subst hy;cases x <;> simp only [reduceCtorEq,Option.some.injEq] at h <;> subst h <;> simp only [ae] at hx
  ·subst hx;exact ⟨true,pt e hk none,by simp [ae],by simp⟩
  ·obtain ⟨_,⟨a,rfl⟩,_⟩:=hx;exact ⟨false,pt e hk (some a),by simp [ae],by simp⟩
  ·obtain ⟨b,o,c,T,fr,_,_,_,_,_,_,rfl⟩:=hx;exact ⟨false,pt e hk _,by simp [ae],by simp⟩
  ·obtain ⟨_,_,⟨a,rfl⟩,_⟩:=hx;exact ⟨false,pt e hk (some a),by simp [ae],by simp⟩
  ·obtain ⟨_,_,⟨a,rfl⟩,_⟩:=hx;exact ⟨false,pt e hk (some a),by simp [ae],by simp⟩
 case slice e=>
  simp only [bJ] at hk;cases y <;> simp only [wW,Bool.false_eq_true] at hc;simp only [ae] at hy;subst hy;cases x <;> simp only [reduceCtorEq,Option.some.injEq] at h <;> subst h <;> simp only [ae] at hx
  ·subst hx;exact ⟨true,sl e hk none 0 0,by simp [ae],by simp⟩
  ·obtain ⟨a,rfl⟩:=hx;exact ⟨a.isNone,sl e hk a 0 0,by simp [ae],by simp⟩
  ·obtain ⟨_,_,⟨a,l,c,rfl⟩,_⟩:=hx;exact ⟨a.isNone,sl e hk a l c,by simp [ae],by simp⟩
  ·rename_i t' xs;generalize hl:[xv]=l0 at hx
   cases hx with
   | nil=>cases hl;exact ⟨_,sl e hk _ 0 _,by simp [ae],by simp⟩
   | slice=>cases hl;exact ⟨_,sl e hk _ _ _,by simp [ae],by simp⟩
  ·obtain ⟨_,_,⟨a,l,c,rfl⟩,_⟩:=hx;exact ⟨false,sl e hk (some a) l c,by simp [ae],by simp⟩
 case map a b=>
  simp only [bJ] at hk;cases y <;> simp only [wW,Bool.false_eq_true] at hc;simp only [ae] at hy;subst hy
  have mp :∀ r:Option Nat,(Op.equal t (.map r) (.map none)).run P E.w = .ok r.isNone E.w:=fun r=>by
   have h :∀ d:Nat,(Op.equalIn (d+1) t (.map r) (.map none)).run P E.w = .ok r.isNone E.w:=fun d=>by cases r <;> simp [Op.equalIn,run_underlying hk]
   simp [Op.equal,Op.maxDepth,h 9999]
  cases x <;> simp only [reduceCtorEq,Option.some.injEq] at h <;> subst h <;> simp only [ae] at hx
  ·obtain ⟨_,⟨r,rfl⟩,_⟩:=hx;exact ⟨false,mp (some r),by simp [ae],by simp⟩
  ·subst hx;exact ⟨true,mp none,by simp [ae],by simp⟩
theorem Mn {E:Env} {v:V} {b:Bool} (h:ae E v (.bool b)) (hk :∃ k x,Fi k x=some v):ae E (noV v) (.bool (!b)):=by
 obtain ⟨k,x,hk⟩:=hk
 have :(∃ c,v = .kb c)\/∃ q p,v = .hint q p:=by cases k <;> simp only [Fi,reduceCtorEq] at hk <;> cases x <;> simp only [reduceCtorEq,Option.some.injEq] at hk <;> subst hk <;> simp
 rcases this with ⟨c,rfl⟩ |⟨q,p,rfl⟩
 ·simp only [ae,noV,Value.bool.injEq] at h ⊢;rw [h]
 ·simp only [ae,noV,Value.bool.injEq] at h ⊢;obtain ⟨b',rfl,h⟩:=h;exact ⟨!b,rfl,fun e=>h (by cases b <;> cases p <;> simp_all)⟩
theorem ES {E:Env} {t:TypeId} {td:TD} (ht:cy P t td) {op:BinOp} {x y:V} {xv yv:Value} (hx:ae E x xv) (hy:ae E y yv) (xo yo:Operand) {ps:List Ob} {v:V} {dh:List (Nat×bd)}
  (h:im td op x y = .val ps v dh) (hps :∀ p∈ps,p.holds):dh=[]/\∃ v',(do eqGuard op t xo yo xv yv;binOp op t xv yv:Sem Value).run P E.w = .ok v' E.w/\ae E v v':=by
 have hkd:=ht.kind;unfold im at h;split at h
 ·rename_i k a k' b;split at h
  case isFalse=>cases h
  rename_i e;subst e;simp only [ae] at hx hy;obtain ⟨rfl,ha⟩:=hx;obtain ⟨rfl,hb⟩:=hy;rw [Sem.run_bind,iT _ _ _ _ _ _ _ (by simp) (by simp)];simp only [Result.andThen_ok];cases op <;> simp only [reduceCtorEq,Res.val.injEq] at h <;> obtain ⟨rfl,rfl,rfl⟩:=h <;> refine ⟨rfl,?_⟩
  case add=>exact ⟨_,by simp [binOp,Op.intArith],kJ (nL _ _)⟩
  case sub=>exact ⟨_,by simp [binOp,Op.intArith],kJ (nL _ _)⟩
  case mul=>exact ⟨_,by simp [binOp,Op.intArith],kJ (nL _ _)⟩
  case quo=>
   have hp:=hps _ (List.mem_singleton.2 rfl);simp only [Ob.holds] at hp;exact ⟨_,by simp [binOp,Op.intDiv,hp],kJ (nL _ _)⟩
  case rem=>
   have hp:=hps _ (List.mem_singleton.2 rfl);simp only [Ob.holds] at hp;exact ⟨_,by simp [binOp,Op.intDiv,hp],kJ (Uh ha)⟩
  case and=>exact ⟨_,by simp only [binOp,Op.intBits,ne_eq,not_true_eq_false,if_false,Sem.run_pure,aav],kJ (nL _ _)⟩
  all_goals exact ⟨_,by simp [binOp,Op.intCmp],G8 _⟩
 ·rename_i a b;simp only [ae] at hx hy;obtain ⟨rfl,ha⟩:=hx;obtain ⟨rfl,hb⟩:=hy;rw [Sem.run_bind,iT _ _ _ _ _ _ _ (by simp) (by simp)];simp only [Result.andThen_ok];cases op <;> simp only [reduceCtorEq,Res.val.injEq] at h <;> obtain ⟨rfl,rfl,rfl⟩:=h <;> refine ⟨rfl,?_⟩
  case add=>
   have hp:=hps _ (List.mem_singleton.2 rfl);simp only [Ob.holds] at hp
   have hmax :¬((9223372036854775807:Int) <(a.size:Int) +(b.size:Int)):=by unfold aW at hp;omega
   exact ⟨_,by simp [binOp,Op.stringOp,IntKind.max,IntKind.signed,IntKind.bits,hmax],MT (by rw [ByteArray.size_append];exact hp)⟩
  all_goals exact ⟨_,by simp only [binOp,Op.stringOp,Sem.run_pure],G8 _⟩
 ·rename_i xs ys;split at h
  case isFalse=>cases h
  rename_i e;obtain ⟨e1,e2,e3⟩:=e;simp only [ae] at hx hy;obtain ⟨cs,rfl,hx⟩:=hx;obtain ⟨ds,rfl,hy⟩:=hy;obtain ⟨hr,hg⟩:=IW ht e1 hx hy e2 e3;rw [Sem.run_bind,hg];simp only [Result.andThen_ok];cases op <;> simp only [reduceCtorEq,Res.val.injEq] at h <;> obtain ⟨rfl,rfl,rfl⟩:=h <;> refine ⟨rfl,?_⟩
  all_goals exact ⟨_,by simp [binOp,hr],G8 _⟩
 ·split at h
  case h_2=>
   rename_i k _;split at h
   case h_2=>cases h
   rename_i v0 hc hn;obtain ⟨b,hr,hv,g1,g2,g3,g4,g5,g6⟩:=Fj hkd hx hy hc hn;rw [Sem.run_bind,iT _ _ _ _ _ _ _ g1 g2];simp only [Result.andThen_ok];cases op <;> simp only [reduceCtorEq,Res.val.injEq] at h <;> obtain ⟨rfl,rfl,rfl⟩:=h <;> refine ⟨rfl,?_⟩
   ·refine ⟨.bool b,?_,hv⟩
    have:binOp .eql t xv yv =(do pure (.bool (<-Op.equal t xv yv)):Sem Value):=by cases xv <;> first|rfl |(exfalso;simp_all;done)
    rw [this];simp [hr]
   ·refine ⟨.bool (!b),?_,Mn hv ⟨_,_,hn⟩⟩
    have:binOp .neq t xv yv =(do pure (.bool (!(<-Op.equal t xv yv))):Sem Value):=by cases xv <;> first|rfl |(exfalso;simp_all;done)
    rw [this];simp [hr]
  rename_i a b h1 h2 hk;rw [hk] at hkd;simp only [bJ] at hkd
  have ex:xv = .bool a:=by cases x <;> simp only [Wq,reduceCtorEq,Option.some.injEq] at h1 <;> subst h1 <;> simpa [ae] using hx
  have ey:yv = .bool b:=by cases y <;> simp only [Wq,reduceCtorEq,Option.some.injEq] at h2 <;> subst h2 <;> simpa [ae] using hy
  subst ex;subst ey;rw [Sem.run_bind,iT _ _ _ _ _ _ _ (by simp) (by simp)];simp only [Result.andThen_ok];cases op <;> simp only [reduceCtorEq,Res.val.injEq] at h <;> obtain ⟨rfl,rfl,rfl⟩:=h <;> refine ⟨rfl,?_⟩
  all_goals exact ⟨_,by simp [binOp,GF hkd],G8 _⟩
theorem HG {E:Env} {op:UnOp} {x:V} {xv:Value} (hx:ae E x xv) {ps:List Ob} {v:V} {dh:List (Nat×bd)}
  (h:NT op x = .val ps v dh):dh=[]/\∃ v',(Op.unary op xv).run P E.w = .ok v' E.w/\ae E v v':=by
 unfold NT at h;split at h
 ·cases h;simp only [ae] at hx;subst hx;exact ⟨rfl,_,by simp [Op.unary],G8 _⟩
 ·cases h;simp only [ae] at hx;subst hx;exact ⟨rfl,_,by simp [Op.unary],vkb _⟩
 ·rename_i q p;cases h;simp only [ae] at hx;obtain ⟨b,rfl,hb⟩:=hx;exact ⟨rfl,.bool (!b),by simp [Op.unary],by simp only [ae];exact ⟨!b,rfl,fun e=>hb (by cases b <;> cases p <;> simp_all)⟩⟩
 ·cases h;simp only [ae] at hx;obtain ⟨rfl,_⟩:=hx;exact ⟨rfl,_,by simp only [Op.unary,Op.intArith,Sem.run_pure],kJ (nL _ _)⟩
 ·cases h
theorem EL (n:Int) :(Utf8.encode n).size<=aW:=by
 have h :∀ l:Array UInt8,l.size<=4->(ByteArray.mk l).size<=aW:=fun l hl=>by show l.size<=140737488355328;omega
 unfold Utf8.encode;generalize (if Utf8.valid n then n.toNat else Utf8.runeError)=c;show (ite _ _ _:ByteArray).size<=aW;by_cases h1:c<0x80
 ·rw [if_pos h1];exact h _ (by simp)
 ·rw [if_neg h1];by_cases h2:c<0x800
  ·rw [if_pos h2];exact h _ (by simp)
  ·rw [if_neg h2];by_cases h3:c<0x10000
   ·rw [if_pos h3];exact h _ (by simp)
   ·rw [if_neg h3];exact h _ (by simp)
theorem CB {E:Env} {s d:TypeId} {ts td:TD} (hs:cy P s ts) (hd:cy P d td) {x:V} {xv:Value} (hx:ae E x xv) {ps:List Ob} {v:V} {dh:List (Nat×bd)}
  (h:CA ts td x = .val ps v dh):dh=[]/\∃ v',(convert s d xv).run P E.w = .ok v' E.w/\ae E v v':=by
 have hsk:=hs.kind;have hdk:=hd.kind;unfold CA at h;split at h
 ·rename_i h1 h2;cases h;rw [h1] at hsk;rw [h2] at hdk;simp only [bJ] at hsk hdk;simp only [ae] at hx;obtain ⟨rfl,_⟩:=hx;exact ⟨rfl,_,by simp [convert,run_underlying hsk,run_underlying hdk,Conv.intToInt],kJ (nL _ _)⟩
 ·rename_i h1 h2;cases h;rw [h1] at hsk;rw [h2] at hdk;simp only [bJ] at hsk hdk;simp only [ae] at hx;obtain ⟨rfl,hl⟩:=hx;exact ⟨rfl,_,by simp [convert,run_underlying hsk,run_underlying hdk],MT hl⟩
 ·rename_i h1 h2;cases h;rw [h1] at hsk;rw [h2] at hdk;simp only [bJ] at hsk hdk;simp only [ae] at hx;obtain ⟨rfl,_⟩:=hx;exact ⟨rfl,_,by simp [convert,run_underlying hsk,run_underlying hdk,Conv.intToString],MT (EL _)⟩
 ·cases h
theorem wC {E:Env} {tb:bG} (hT:cn P tb) {t:TypeId} {td:TD} (ht:cy P t td) {x i:V} {xv iv:Value} (hx:ae E x xv) (hi:ae E i iv) {ps:List Ob} {v:V} {dh:List (Nat×bd)}
  (h:oy tb td x i = .val ps v dh) (hps :∀ p∈ps,p.holds):dh=[]/\∃ v',(Instr.index t xv iv).run P E.w = .ok v' E.w/\ae E v v':=by
 have hk:=ht.kind;unfold oy at h;split at h
 ·rename_i s k n h1;cases h;rw [h1] at hk;simp only [bJ] at hk;simp only [ae] at hx hi;obtain ⟨rfl,hs⟩:=hx;obtain ⟨rfl,_⟩:=hi;have hp:=hps _ (List.mem_singleton.2 rfl);simp only [Ob.holds] at hp;have hlt:n.toNat<s.size:=by omega
  have e:s[n.toNat]?=some (s.data.getD n.toNat 0):=by
   rw [getElem?_pos s n.toNat hlt];congr 1;show s.data[n.toNat]=s.data.getD n.toNat 0
   have:n.toNat<s.data.size:=hlt
   rw [Array.getD_eq_getD_getElem?,Array.getElem?_eq_getElem this];rfl
  refine ⟨rfl,.int .u8 ((s.data.getD n.toNat 0).toNat:Int),?_,kJ (Pq _)⟩;simp only [Instr.index,asIntOf,Sem.run_bind,Sem.run_pure,Result.andThen_ok,run_underlying hk,hp.1,if_true,e]
 ·rename_i len e cs k n h1;rw [h1] at hk;simp only [bJ] at hk;split at h
  case h_2=>cases h
  rename_i te hte;split at h
  case h_2=>cases h
  rename_i ps1 v1 dh1 hld;cases h;have hp:=hps _ (List.mem_singleton.2 rfl);simp only [Ob.holds] at hp;simp only [ae] at hx hi;obtain ⟨l,rfl,hl⟩:=hx;obtain ⟨rfl,_⟩:=hi;obtain ⟨_,v',hr,hv⟩:=xE (hT _ _ hte) hl hld;refine ⟨rfl,v',?_,hv⟩;simp [Instr.index,asIntOf,run_underlying hk,(hT _ _ hte).sizeOf,hp.1,hp.2,hr]
 ·cases h
theorem CF {E:Env} {c a b:V} {cv av bv:Value} (hc:ae E c cv) (ha:ae E a av) (hb:ae E b bv) {ps:List Ob} {v:V} {dh:List (Nat×bd)}
  (h:tv c a b = .val ps v dh):dh=[]/\∃ q,(asBool cv).run P E.w = .ok q E.w/\ae E v (if q then av else bv):=by
 cases c <;> simp only [tv,reduceCtorEq,Res.val.injEq] at h
 case kb p=>
  obtain ⟨rfl,rfl,rfl⟩:=h;simp only [ae] at hc;subst hc;refine ⟨rfl,p,by simp [asBool],?_⟩;cases p
  ·simpa using hb
  ·simpa using ha
 case bool p=>
  simp only [ae] at hc;subst hc;split at h
  case h_2=>cases h
  rename_i u hu;cases h;refine ⟨rfl,p,by simp [asBool],?_⟩;cases a <;> cases b <;> simp only [abd,reduceCtorEq,Option.some.injEq] at hu
  all_goals first
   |(split at hu
     ·rename_i e;subst e;simp only [Option.some.injEq] at hu;subst hu;cases p <;> simp_all [ae]
     ·cases hu)
   |(subst hu;cases p <;> simp_all [ae])
theorem wB {E:Env} :∀ {xs:List V} {vs:List Value} {x:V} {xv:Value},ae E x xv->ai E xs vs->∀ {ps:List Ob} {v:V} {dh:List (Nat×bd)},mR OO x xs = .val ps v dh->
  dh=[]/\∃ v',(vs.foldlM Builtin.min2 xv:Sem Value).run P E.w = .ok v' E.w/\ae E v v'
 | xs,vs,x,xv,hx,hv,ps,v,dh,h=>by
  match xs,vs,hv with
  | [],[],_=>
   unfold mR at h;split at h
   ·cases h;exact ⟨rfl,xv,by simp,hx⟩
   ·contradiction
   ·cases h
  | y::ys,u::us,hv=>
   simp only [ai] at hv;unfold mR at h;split at h
   ·contradiction
   ·rename_i k a k' b r hh;cases hh;split at h
    case isFalse=>cases h
    rename_i e;subst e;simp only [ae] at hx hv;obtain ⟨rfl,ha⟩:=hx;obtain ⟨⟨rfl,hb⟩,hr⟩:=hv
    have hm:ae E (.int k (OO a b)) (.int k (OO a b)):=by simp only [ae,true_and];unfold OO;split <;> assumption
    obtain ⟨e,v',h1,h2⟩:=wB hm hr h;refine ⟨e,v',?_,h2⟩;simp only [List.foldlM_cons,Sem.run_bind,Builtin.min2,Sem.run_pure,Result.andThen_ok];exact h1
   ·cases h
theorem wA {E:Env} :∀ {xs:List V} {vs:List Value} {x:V} {xv:Value},ae E x xv->ai E xs vs->∀ {ps:List Ob} {v:V} {dh:List (Nat×bd)},mR ON x xs = .val ps v dh->
  dh=[]/\∃ v',(vs.foldlM Builtin.max2 xv:Sem Value).run P E.w = .ok v' E.w/\ae E v v'
 | xs,vs,x,xv,hx,hv,ps,v,dh,h=>by
  match xs,vs,hv with
  | [],[],_=>
   unfold mR at h;split at h
   ·cases h;exact ⟨rfl,xv,by simp,hx⟩
   ·contradiction
   ·cases h
  | y::ys,u::us,hv=>
   simp only [ai] at hv;unfold mR at h;split at h
   ·contradiction
   ·rename_i k a k' b r hh;cases hh;split at h
    case isFalse=>cases h
    rename_i e;subst e;simp only [ae] at hx hv;obtain ⟨rfl,ha⟩:=hx;obtain ⟨⟨rfl,hb⟩,hr⟩:=hv
    have hm:ae E (.int k (ON a b)) (.int k (ON a b)):=by simp only [ae,true_and];unfold ON;split <;> assumption
    obtain ⟨e,v',h1,h2⟩:=wA hm hr h;refine ⟨e,v',?_,h2⟩;simp only [List.foldlM_cons,Sem.run_bind,Builtin.max2,Sem.run_pure,Result.andThen_ok];exact h1
   ·cases h
theorem EU {B:aK} {E:Env} (hE:aM B E) {t:TypeId} {td:TD} (ht:cy P t td) {x:V} {xv:Value} (hx:ae E x xv) (ty:TypeId) {ps:List Ob} {v:V} {dh:List (Nat×bd)}
  (h:zH td E.H x = .val ps v dh):dh=[]/\∃ v',(Builtin.len_ #[t] ty #[xv]).run P E.w = .ok v' E.w/\ae E v v':=by
 have hk:=ht.kind;unfold zH at h;split at h
 ·rename_i s h1;cases h;rw [h1] at hk;simp only [bJ] at hk;simp only [ae] at hx;obtain ⟨rfl,hs⟩:=hx;exact ⟨rfl,_,by simp [Builtin.len_,run_underlying hk,goInt],kJ (nq hs)⟩
 ·rename_i e t' xs h1;cases h;rw [h1] at hk;simp only [bJ] at hk;simp only [ae] at hx;generalize hl:[xv]=l at hx
  cases hx with
  | nil=>cases hl;exact ⟨rfl,_,by simp [Builtin.len_,run_underlying hk,goInt],kJ (nq (n:=0) (Nat.zero_le _))⟩
  | slice _ _ _ _ h5=>cases hl;exact ⟨rfl,_,by simp [Builtin.len_,run_underlying hk,goInt],kJ (nq h5)⟩
 ·rename_i e h1;cases h;rw [h1] at hk;simp only [bJ] at hk;simp only [ae] at hx;subst hx;exact ⟨rfl,_,by simp [Builtin.len_,run_underlying hk,goInt],kJ (nq (n:=0) (Nat.zero_le _))⟩
 ·rename_i e h1;cases h;rw [h1] at hk;simp only [bJ] at hk;simp only [ae] at hx;obtain ⟨a,rfl⟩:=hx;exact ⟨rfl,_,by simp [Builtin.len_,run_underlying hk,goInt],kJ (nq (n:=0) (Nat.zero_le _))⟩
 ·rename_i e hh ver h1;rw [h1] at hk;simp only [bJ] at hk;split at h
  case h_2=>cases h
  rename_i ver' rw' t' xs hH;split at h
  case isFalse=>cases h
  rename_i e1;subst e1;cases h;rcases nr hE hH hx with ⟨_,h3,a,rfl⟩ |⟨b,cap,c,T,fr,h3,rfl,h5,h6,hcap,h7,h8,h9,h10,h11,h12⟩
  ·subst h3;exact ⟨rfl,_,by simp [Builtin.len_,run_underlying hk,goInt],kJ (nq (n:=0) (Nat.zero_le _))⟩
  ·exact ⟨rfl,_,by simp [Builtin.len_,run_underlying hk,goInt],kJ (nq h11)⟩
 ·rename_i n e x' h1;rw [h1] at hk;simp only [bJ] at hk;split at h
  case isFalse=>cases h
  rename_i hn;cases h;exact ⟨rfl,_,by simp [Builtin.len_,run_underlying hk,goInt],kJ (nq (by unfold aW;omega))⟩
 ·cases h
end
section
open Go.RowKit
variable {P:Program}
theorem vf :∀ (l:List Value) (k off:Nat) (cells:Array Value),off+k+l.length<=cells.size->
  ((l.zipIdx k).foldl (fun cs q=>cs.setIfInBounds (off+q.2) q.1) cells).toList=cells.toList.take (off+k)++l++cells.toList.drop (off+k+l.length)
 | [],k,off,cells,_=>by simp
 | v::r,k,off,cells,h=>by
  have hl:off+k+r.length+1<=cells.size:=by simpa [Nat.add_assoc] using h
  rw [List.zipIdx_cons,List.foldl_cons,vf r (k+1) off _ (by simp;omega)];have ho:off+k<cells.toList.length:=by simp;omega
  rw [Array.toList_setIfInBounds,<-Nat.add_assoc,List.take_set,List.take_succ_eq_append_getElem ho,List.drop_set_of_lt (by omega),List.set_append_right _ _ (by simp;omega)];simp [Nat.min_eq_left (Nat.le_of_lt (by simpa using ho)),Nat.add_assoc,Nat.add_comm 1]
def qb (E:Env):List (Nat×V)->List (Nat×Value)->Prop
 | [],[]=>True
 | p::ps,q::qs=>p.1=q.1/\ae E p.2 q.2/\qb E ps qs
 | _,_=>False
theorem kc {E:Env} {f:Nat->Option (Nat×Nat)} :∀ {parts:List (Nat×V)} {pv:List (Nat×Value)} {cs:List V} {cells:Array Value} {cs':List V},qb E parts pv->ai E cs cells.toList->ka f cs parts=some cs'->
  ∃ cells',Instr.fill f cells pv=some cells'/\ai E cs' cells'.toList
 | [],[],cs,cells,cs',_,h,hf=>by simp only [ka,Option.some.injEq] at hf;subst hf;exact ⟨cells,rfl,h⟩
 | p::ps,[],_,_,_,hp,_,_=>by simp [qb] at hp
 | [],q::qs,_,_,_,hp,_,_=>by simp [qb] at hp
 |(i,v)::ps,(j,u)::qs,cs,cells,cs',hp,h,hf=>by
  simp only [qb] at hp;obtain ⟨rfl,hv,hp⟩:=hp;simp only [ka] at hf;split at hf
  case h_2=>cases hf
  rename_i off size hfi;split at hf
  case h_2=>cases hf
  rename_i xs hxs;split at hf
  case isFalse=>cases hf
  rename_i h1;split at hf
  case isFalse=>cases hf
  rename_i h2;have hc:=cC hv hxs;have hl:=bk hc;have hlc:=bk h;simp only [Array.length_toList] at hl hlc;have e:=vf u.cells.toList 0 off cells (by simp;omega)
  have hfold :(u.cells.zipIdx.foldl (fun cs q=>cs.setIfInBounds (off+q.2) q.1) cells).toList=cells.toList.take off++u.cells.toList++cells.toList.drop (off+u.cells.toList.length):=by rw [<-Array.foldl_toList,Array.toList_zipIdx];simpa using e
  have hs:=jP h hc off;rw [<-hfold] at hs;obtain ⟨cells',r1,r2⟩:=kc hp hs hf;refine ⟨cells',?_,r2⟩;unfold Instr.fill;simp only [hfi];rw [if_neg (by simp;omega)];exact r1
theorem qB {α β:Type} (f:α->Sem β) (g:α->β) (w:World) :∀ (l:List α),(∀ x∈l,(f x).run P w = .ok (g x) w)->(l.mapM f).run P w = .ok (l.map g) w
 | [],_=>by simp
 | x::l,h=>by simp [List.mapM_cons,h x (by simp),qB f g w l (fun y hy=>h y (by simp [hy]))]
theorem xN {α β:Type} (f:α->Sem β) (g:α->β) (w:World) (l:Array α) (h :∀ x∈l.toList,(f x).run P w = .ok (g x) w) :(l.mapM f).run P w = .ok (l.map g) w:=by rw [Array.mapM_eq_mapM_toList,Sem.run_map,qB f g w l.toList h];simp only [Result.andThen_ok];congr 1;apply Array.ext';simp
theorem yI {E:Env} {tb:bG} (hT:cn P tb) {t:TypeId} {td:TD} (ht:cy P t td) {parts:List (Nat×V)} {pv:Array (Nat×Value)} (hp:qb E parts pv.toList) {ps:List Ob} {v:V} {dh:List (Nat×bd)}
  (h:pE tb td parts = .val ps v dh):dh=[]/\∃ v',(Instr.build t pv).run P E.w = .ok v' E.w/\ae E v v':=by
 have hk:=ht.kind;obtain ⟨z,hz,hzz⟩:=ht.zeroValue E.w;have hzr:ai E td.zero z.cells.toList:=eF hzz;unfold pE at h;split at h
 ·rename_i fs h1;rw [h1] at hk;obtain ⟨fields,hu,hfs⟩:=hk;split at h
  case isFalse=>cases h
  rename_i hall;split at h
  case h_2=>cases h
  rename_i cs hcs;cases h
  have hm:=xN (P:=P) (fun f:Field=>do pure (f.offset,<-sizeOf f.type)) (fun f=>(f.offset,((tb f.type).map TD.size).getD 0)) E.w fields (fun f hf=>by
   have hmem :(f.offset,f.type)∈fs:=by rw [<-hfs];exact List.mem_map.2 ⟨f,hf,rfl⟩
   have:=List.all_eq_true.1 hall _ hmem
   obtain ⟨tf,htf⟩:=Option.isSome_iff_exists.1 this;simp only at htf
   simp [(hT _ _ htf).sizeOf,htf])
  have hf :(fun i=>(fields.map (fun f=>(f.offset,((tb f.type).map TD.size).getD 0)))[i]?)=fun (i:Nat)=>(fs[i]?).map fun (q:Nat×TypeId)=>(q.1,((tb q.2).map TD.size).getD 0):=by funext i;rw [<-hfs,List.getElem?_map,Array.getElem?_map,Option.map_map];simp only [Array.getElem?_toList];rfl
  rw [<-hf] at hcs;obtain ⟨cells',r1,r2⟩:=kc hp hzr hcs;refine ⟨rfl,.agg cells',?_,?_⟩
  ·unfold Instr.build;simp only [Sem.run_bind,hz,Result.andThen_ok,run_underlying hu,hm,Sem.run_pure,r1]
  ·simp only [ae];exact ⟨_,rfl,r2⟩
 ·rename_i n e h1;rw [h1] at hk;simp only [bJ] at hk;split at h
  case h_2=>cases h
  rename_i te hte;split at h
  case h_2=>cases h
  rename_i cs hcs;cases h;obtain ⟨cells',r1,r2⟩:=kc hp hzr hcs;refine ⟨rfl,.agg cells',?_,?_⟩
  ·unfold Instr.build;simp only [Sem.run_bind,hz,Result.andThen_ok,run_underlying hk,(hT _ _ hte).sizeOf,Sem.run_pure,r1]
  ·simp only [ae];exact ⟨_,rfl,r2⟩
 ·cases h
theorem GC (cs:List V) :∀ n,(qd cs n).length=n*cs.length
 | 0=>by simp [qd]
 | n+1=>by simp [qd,GC cs n,Nat.add_mul,Nat.add_comm]
theorem nt (z:Array Value) :∀ n,((List.range (n*z.size)).map fun i=>z[i % z.size]!) =(List.replicate n z.toList).flatten
 | 0=>by simp
 | n+1=>by
  rw [List.replicate_succ',List.flatten_append,<-nt z n,Nat.add_mul,Nat.one_mul,List.range_add,List.map_append,List.map_map];congr 1;simp only [List.flatten_cons,List.flatten_nil,List.append_nil];apply List.ext_getElem
  ·simp
  ·intro i h1 h2;have hi:i<z.size:=by simpa using h2
   simp only [List.getElem_map,List.getElem_range,Function.comp,Array.getElem_toList];have e :(n*z.size+i) % z.size=i:=by rw [Nat.mul_comm,Nat.mul_add_mod,Nat.mod_eq_of_lt hi]
   rw [e];exact getElem!_pos z i hi
theorem iM {E:Env} {cs:List V} {l:List Value} (h:ai E cs l) :∀ n,ai E (qd cs n) (List.replicate n l).flatten
 | 0=>by simp [qd,ai]
 | n+1=>by rw [List.replicate_succ,List.flatten_cons];exact cj h (iM h n)
theorem uV {B:aK} {E:Env} (hE:aM B E) {t:Ty} :∀ {n:Nat} {vs:List V} {xs:List (Den t)} {cs:List Value},Bs E.H t n vs=some xs->ai E vs cs->
  xs.length=n/\cs.length=n*sz t/\∀ (i:Nat) (h:i<xs.length),Rd E.S E.w t xs[i] ((cs.drop (i*sz t)).take (sz t))
 | 0,[],xs,cs,h,hv=>by
  simp only [Bs,Option.some.injEq] at h;subst h
  cases cs with
  | nil=>exact ⟨rfl,by simp,fun i h=>by simp at h⟩
  | cons=>simp [ai] at hv
 | 0,_::_,xs,cs,h,_=>by simp [Bs] at h
 | n+1,vs,xs,cs,h,hv=>by
  simp only [Bs] at h;split at h
  case h_2=>cases h
  rename_i x r h1;split at h
  case h_2=>cases h
  rename_i ys h2;cases h;obtain ⟨c1,c2,rfl,k1,k2⟩:=jh hE _ h1 hv;obtain ⟨g1,g2,g3⟩:=uV hE h2 k2;have hl:=k1.len;refine ⟨by simp [g1],by simp [hl,g2,Nat.add_mul,Nat.add_comm],fun i hi=>?_⟩
  cases i with
  | zero=>simpa [<-hl] using k1
  | succ i=>
   have:=g3 i (by simpa using hi)
   have e :((c1++c2).drop ((i+1)*sz t))=c2.drop (i*sz t):=by rw [Nat.add_mul,Nat.one_mul,<-hl,List.drop_append,List.drop_eq_nil_of_le (by omega)];simp
   rw [e];exact this
theorem so {B:aK} {E:Env} (hE:aM B E) (m:Nat) (hm :¬ E.U m) (t:Ty) (xs:List (Den t)) (l:List Value) (T:TypeId) (cap:Nat) (hcap:l.length=cap*sz t) (hlc:xs.length<=cap) (hl:xs.length<=aW)
  (hx :∀ (i:Nat) (h:i<xs.length),Rd E.S E.w t xs[i] ((l.drop (i*sz t)).take (sz t))) (c:Array Value) (hc:c.toList=l) :
  ∃ E',Good B E m [(m,.row m true t xs)] { E.w with heap:=E.w.heap.push (.cells c T (0,0)) } E'/\ae E' (.osl m m) (.slice (some ⟨E.w.heap.size,0,none⟩) xs.length cap):=by
 subst hc;exact SO hE m hm t xs c T cap (by simpa using hcap) hlc hl (fun i h=>by simpa [gR] using hx i h)
theorem jX {B:aK} {E:Env} (hE:aM B E) {tb:bG} (hT:cn P tb) {t:TypeId} {td:TD} (ht:cy P t td) (m:Nat) (hm :¬ E.U m) {n:Nat} {parts:List (Nat×V)} {pv:Array (Nat×Value)} (hp:qb E parts pv.toList)
  {ps:List Ob} {v:V} {dh:List (Nat×bd)} (h:eD tb td E.H m n parts = .val ps v dh) :∃ v' w' E',(Instr.buildSlice t n pv).run P E.w = .ok v' w'/\Good B E m dh w' E'/\ae E' v v':=by
 have hk:=ht.kind;unfold eD at h;split at h
 case h_2=>cases h
 rename_i e h1;rw [h1] at hk;simp only [bJ] at hk;split at h
 case h_2=>cases h
 rename_i te hte;have hte':=hT _ _ hte;split at h
 case h_2=>cases h
 rename_i t' ht';split at h
 case isFalse=>cases h
 rename_i hc;obtain ⟨c1,c2,c3,c4⟩:=hc;split at h
 case h_2=>cases h
 rename_i cs hcs;split at h
 case h_2=>cases h
 rename_i xs hxs;cases h;obtain ⟨z,hz,hzz⟩:=hte'.zeroValue E.w;have hzr:ai E te.zero z.cells.toList:=eF hzz;have hzl:z.cells.size=te.size:=by have:=bk hzr;simp at this;omega
 have hsmall :¬(n*te.size>2 ^ 24):=by
  have:=Nat.mul_le_mul c2 c3
  omega
 have hzero :∃ zc:Array Value,((n*te.size=0/\zc=#[])\/(n*te.size≠0/\zc=z.cells))/\((Array.range (n*te.size)).map (zc[· % zc.size]!)).toList =(List.replicate n z.cells.toList).flatten:=by
  by_cases h0:n*te.size=0
  ·refine ⟨#[],.inl ⟨h0,rfl⟩,?_⟩;rw [h0];rcases Nat.mul_eq_zero.1 h0 with h0|h0
   ·subst h0;simp
   ·have:z.cells.toList=[]:=List.eq_nil_of_length_eq_zero (by rw [Array.length_toList];omega)
    rw [this];simp
  ·refine ⟨z.cells,.inr ⟨h0,rfl⟩,?_⟩;rw [<-hzl,Array.toList_map,Array.toList_range];exact nt _ _
 obtain ⟨zc,hz1,hz2⟩:=hzero;have hzv:=iM hzr n;rw [<-hz2] at hzv;obtain ⟨cells',r1,r2⟩:=kc hp hzv hcs;obtain ⟨g1,g2,g3⟩:=uV hE hxs r2;obtain ⟨E',G,hv⟩:=so hE m hm t' xs cells'.toList e n g2 (by omega) (by rw [g1];unfold aW;omega) g3 cells' rfl;refine ⟨_,_,E',?_,G,hv⟩;rw [g1];unfold Instr.buildSlice;simp only [Sem.run_bind,run_underlying hk,Result.andThen_ok,hte'.sizeOf,hsmall,if_false];rcases hz1 with ⟨h0,rfl⟩ |⟨h0,rfl⟩
 ·simp only [h0,if_true,Sem.run_bind,Sem.run_pure,Result.andThen_ok] at r1 ⊢;simp only [r1,newRow,Sem.run_bind,run_newObj,Result.andThen_ok,Sem.run_pure]
 ·simp only [h0,if_false,Sem.run_bind,hz,Sem.run_pure,Result.andThen_ok,r1,newRow,run_newObj]
theorem rN {B:aK} {E:Env} (hE:aM B E) {tb:bG} (hT:cn P tb) {t:TypeId} {td:TD} (ht:cy P t td) (m:Nat) (hm :¬ E.U m) {l c:V} {lv cv:Value} (hl:ae E l lv) (hc:ae E c cv)
  {ps:List Ob} {v:V} {dh:List (Nat×bd)} (h:oA tb td E.H m l c = .val ps v dh) (hps :∀ p∈ps,p.holds) :∃ v' w' E',(Instr.makeSlice t lv cv).run P E.w = .ok v' w'/\Good B E m dh w' E'/\ae E' v v':=by
 have hk:=ht.kind;unfold oA at h;split at h
 case h_2=>cases h
 rename_i k1 n k2 c;split at h
 case h_2=>cases h
 rename_i e h1;rw [h1] at hk;simp only [bJ] at hk;split at h
 case h_2=>cases h
 rename_i te hte;have hte':=hT _ _ hte;split at h
 case h_2=>cases h
 rename_i t' ht';split at h
 case isFalse=>cases h
 rename_i hcc;obtain ⟨c1,c2,c4⟩:=hcc;split at h
 case h_2=>cases h
 rename_i zd hzd;cases h;have hp:=hps _ (List.mem_singleton.2 rfl);simp only [Ob.holds] at hp;obtain ⟨p1,p2,p3⟩:=hp;subst p2;simp only [ae] at hl hc;obtain ⟨rfl,_⟩:=hl;obtain ⟨rfl,_⟩:=hc;obtain ⟨z,hz,hzz⟩:=hte'.zeroValue E.w;have hzr:ai E te.zero z.cells.toList:=eF hzz;have hzl:z.cells.size=te.size:=by have:=bk hzr;simp at this;omega
 have hrd:=dK hE hzd hzr;obtain ⟨N,rfl⟩:=Int.eq_ofNat_of_zero_le p1;have hN:N<=17179869184:=by omega
 have hwrap:IntKind.i64.wrap (N:Int) =(N:Int):=by unfold IntKind.wrap;simp [IntKind.bits,IntKind.signed];omega
 have hbytes :((te.bytes:Int) *(N:Int))<=281474976710656:=by
  have:te.bytes*N<=1000*17179869184:=Nat.mul_le_mul c2 hN
  have h2 :((te.bytes*N:Nat):Int)<=17179869184000:=by omega
  rw [Int.natCast_mul] at h2;omega
 obtain ⟨hb1,hb2⟩:=hte'.bytes E.w
 have hzero :∃ zc:Array Value,((N*te.size=0/\zc=#[])\/(N*te.size≠0/\zc=z.cells))/\((Array.range (N*te.size)).map (zc[· % zc.size]!)).toList =(List.replicate N z.cells.toList).flatten:=by
  by_cases h0:N*te.size=0
  ·refine ⟨#[],.inl ⟨h0,rfl⟩,?_⟩;rw [h0];rcases Nat.mul_eq_zero.1 h0 with h0|h0
   ·subst h0;simp
   ·have:z.cells.toList=[]:=List.eq_nil_of_length_eq_zero (by rw [Array.length_toList];omega)
    rw [this];simp
  ·refine ⟨z.cells,.inr ⟨h0,rfl⟩,?_⟩;rw [<-hzl,Array.toList_map,Array.toList_range];exact nt _ _
 obtain ⟨zc,hz1,hz2⟩:=hzero
 have hflat :∀ (i:Nat),i<N->((List.replicate N z.cells.toList).flatten.drop (i*sz t')).take (sz t')=z.cells.toList:=fun i hi=>by
  obtain ⟨d,rfl⟩ :∃ d,N=i +(d+1):=⟨N - i - 1,by omega⟩;have hzl':z.cells.toList.length=sz t':=by simp;omega
  rw [<-List.replicate_append_replicate,List.flatten_append,List.drop_append];have hfl :((List.replicate i z.cells.toList).flatten).length=i*sz t':=by simp [hzl,c1]
  rw [List.drop_eq_nil_of_le (by omega),hfl,Nat.sub_self,List.drop_zero,List.nil_append,List.replicate_succ,List.flatten_cons,List.take_append_of_le_length (by omega),List.take_of_length_le (by omega)]
 obtain ⟨E',G,hv⟩:=so hE m hm t' (List.replicate N zd) ((List.replicate N z.cells.toList).flatten) e N (by simp [hzl,c1]) (by simp) (by simp;unfold aW;omega)
  (fun i hi=>by
   have hi':i<N:=by simpa using hi
   rw [hflat i hi',List.getElem_replicate]
   exact hrd) ((Array.range (N*te.size)).map (zc[· % zc.size]!)) hz2
 rw [List.length_replicate] at hv;refine ⟨_,_,E',?_,by simpa using G,by simpa using hv⟩;unfold Instr.makeSlice;have q1 :¬((N:Int)<0):=by omega
 have q2 :¬((te.bytes:Int) *(N:Int)>281474976710656):=by omega
 have q3 :¬((N:Int) >(N:Int)):=by omega
 simp only [Sem.run_bind,run_underlying hk,Result.andThen_ok,asInt,asIntOf,Sem.run_pure,hb1,hb2,hwrap]
 have hcond :¬((decide ((N:Int)<0)||decide ((te.bytes:Int) *(N:Int)>2 ^ 48)||decide ((N:Int)<0)||decide ((N:Int) >(N:Int)))=true):=by
  have e48 :(2:Int) ^ 48=281474976710656:=by decide
  rw [e48];simp only [Bool.or_eq_true,decide_eq_true_eq];omega
 rw [if_neg hcond];simp only [Sem.run_bind,run_askRoom,Result.andThen_ok,hte'.sizeOf,Int.toNat_natCast];rcases hz1 with ⟨h0,rfl⟩ |⟨h0,rfl⟩
 ·simp only [h0,if_true,Sem.run_bind,Sem.run_pure,Result.andThen_ok,newRow,run_newObj];rfl
 ·simp only [h0,if_false,Sem.run_bind,hz,Sem.run_pure,Result.andThen_ok,newRow,run_newObj];rfl
end
section
open Go.RowKit
variable {P:Program}
theorem Rd.one {S:Nat->Prop} {w:World} {t:Ty} {x:Den t} {cs:List Value} (h:Rd S w t x cs) :∀ v∈cs,v.oneCell'=true:=by
 induction h with
 | int h=>intro v hv;simp at hv;subst hv;rfl
 | bool=>intro v hv;simp at hv;subst hv;rfl
 | str=>intro v hv;simp at hv;subst hv;rfl
 | unit=>intro v hv;cases hv
 | prod _ _ ih1 ih2=>intro v hv;rcases List.mem_append.1 hv with h|h;exact ih1 v h;exact ih2 v h
 | nm _ ih=>exact ih
 | nil=>intro v hv;simp at hv;subst hv;rfl
 | slice=>intro v hv;simp at hv;subst hv;rfl
def Hg (td:TD):Prop:=(∃ e,td.kind = .slice e)\/td.kind = .str
theorem Hg.under {t:TypeId} {td:TD} (h:cy P t td) (hk:Hg td) :(∃ e,P.underlying t=some (.slice e))\/P.underlying t=some .string:=by
 have hk':=h.kind;rcases hk with ⟨e,hk⟩|hk <;> rw [hk] at hk' <;> simp only [bJ] at hk'
 ·exact .inl ⟨e,hk'⟩
 ·exact .inr hk'
structure SrcC (P:Program) (E:Env) (z n:Nat) (xv:Value) (a:Option Addr) (cap:Nat) (l:List Value):Prop where
 val :∀ w,(Builtin.lenOf xv).run P w = .ok n w
 len:l.length=n*z
 run :∀ (w:World),w.heap=E.w.heap->(Builtin.firstCells z n xv).run P w = .ok l.toArray w
 one :∀ v∈l,v.oneCell'=true
structure Src (P:Program) (E:Env) (t:Ty) (ys:List (Den t)) (xv:Value) (a:Option Addr) (cap:Nat) (l:List Value):Prop extends SrcC P E (sz t) ys.length xv a cap l where
 lb:ys.length<=aW
 rd :∀ (i:Nat) (hi:i<ys.length),Rd E.S E.w t ys[i] ((l.drop (i*sz t)).take (sz t))
theorem CZ {B:aK} {E:Env} (hE:aM B E) {t:Ty} {x:V} {xv:Value} (hx:ae E x xv) {ys:List (Den t)} (h:ub E.H t x=some ys) :
  ∃ a cap l,Src P E t ys xv a cap l:=by
 have empty :∀ (a:Option Addr) (cap:Nat),ys=[]->xv = .slice a 0 cap->∃ a cap l,Src P E t ys xv a cap l:=fun a cap e1 e2=>by
  subst e1;subst e2;refine ⟨a,cap,[],⟨fun _=>rfl,by simp,fun w _=>?_,fun v hv=>by cases hv⟩,Nat.zero_le _,fun i hi=>by simp at hi⟩
  cases a with
  | none=>simp [Builtin.firstCells]
  | some a=>
   have:=run_loadCells_list (P:=P) w a [] (fun j v hj=>by simp at hj)
   simpa [Builtin.firstCells] using this
 have cells :∀ (b o cap:Nat) (c:Array Value) (T:TypeId) (fr:Nat×Nat),E.w.heap[b]?=some (.cells c T fr)->o+ys.length*sz t<=c.size->ys.length<=aW->xv = .slice (some ⟨b,o,none⟩) ys.length cap->
   (∀ (i:Nat) (hi:i<ys.length),Rd E.S E.w t ys[i] (gR c (o+i*sz t) (sz t)))->
   ∃ a cap l,Src P E t ys xv a cap l:=fun b o cap c T fr hb hsz hlb e hrd=>by
  have hl :(gR c o (ys.length*sz t)).length=ys.length*sz t:=vK _ _ _ hsz
  have hseg :∀ i,i<ys.length->((gR c o (ys.length*sz t)).drop (i*sz t)).take (sz t)=gR c (o+i*sz t) (sz t):=fun i hi=>by have hm :(i+1)*sz t<=ys.length*sz t:=Nat.mul_le_mul_right _ hi;rw [Nat.add_mul] at hm;simp only [gR,List.drop_take,List.drop_drop,List.take_take];congr 1;omega
  refine ⟨some ⟨b,o,none⟩,cap,gR c o (ys.length*sz t),⟨fun _=>by rw [e];rfl,hl,fun w hw=>?_,fun v hv=>?_⟩,hlb,fun i hi=>by rw [hseg i hi];exact hrd i hi⟩
  ·subst e;have hbw:w.heap[b]?=some (.cells c T fr):=by rw [hw];exact hb
   have:=run_loadCells_list (P:=P) w ⟨b,o,none⟩ (gR c o (ys.length*sz t)) (fun j v hj=>by
    rw [cr,iR hbw];rw [nA] at hj;split at hj
    ·exact hj
    ·cases hj)
   rw [hl] at this;simpa [Builtin.firstCells] using this
  ·obtain ⟨k,hk,hkv⟩:=List.getElem_of_mem hv;have hk':k<ys.length*sz t:=by omega
   have hpos:0<sz t:=by
    rcases Nat.eq_zero_or_pos (sz t) with h0|h0
    ·rw [h0] at hk';omega
    ·exact h0
   have hi:k / sz t<ys.length:=Nat.div_lt_of_lt_mul (by rw [Nat.mul_comm];exact hk');have h1:=(hrd _ hi).one v;apply h1;rw [<-hseg _ hi];have hkk:k / sz t*sz t+k % sz t=k:=by rw [Nat.mul_comm];exact Nat.div_add_mod _ _
   have hmod:=Nat.mod_lt k hpos
   have :(((gR c o (ys.length*sz t)).drop (k / sz t*sz t)).take (sz t))[k % sz t]?=some v:=by rw [List.getElem?_take_of_lt hmod,List.getElem?_drop,hkk,List.getElem?_eq_getElem hk,hkv]
   exact List.mem_of_getElem? this
 unfold ub at h;split at h
 ·rename_i t' xs;split at h
  case isFalse=>cases h
  rename_i e;subst e;cases h;simp only [ae] at hx;generalize hl:[xv]=l0 at hx
  cases hx with
  | nil=>cases hl;exact empty _ _ rfl rfl
  | slice h1 h2 h3 h4 h5 h6=>cases hl;exact cells _ _ _ _ _ _ h2 h3 h5 rfl h6
 ·rename_i s;split at h
  case isFalse=>cases h
  rename_i e;subst e;cases h;simp only [ae] at hx;obtain ⟨rfl,hsz⟩:=hx;have hl :(kF s).length=s.size:=by unfold kF;rw [List.length_map,Array.length_toList];rfl
  refine ⟨none,0,(kF s).map fun n=> .int .u8 n,⟨fun w=>?_,?_,fun w _=>?_,fun v hv=>?_⟩,?_,fun i hi=>?_⟩
  ·show (Builtin.lenOf (.string s)).run P w = .ok (kF s).length w;rw [hl];rfl
  ·show ((kF s).map _).length =(kF s).length*1;rw [List.length_map,Nat.mul_one]
  ·show (Builtin.firstCells _ (kF s).length (.string s)).run P w=_;rw [hl]
   have:s.extract 0 s.size=s:=ByteArray.extract_zero_size
   simp only [Builtin.firstCells,this,Sem.run_pure];congr 1;apply Array.ext';simp [kF,List.map_map,Function.comp_def]
  ·obtain ⟨n,_,rfl⟩:=List.mem_map.1 hv;rfl
  ·show (kF s).length<=aW;rw [hl];exact hsz
  ·have hi:i <(kF s).length:=hi;have hi':i<s.data.toList.length:=by unfold kF at hi;rwa [List.length_map] at hi
   have hg :(kF s)[i] =((s.data.toList[i]).toNat:Int):=List.getElem_map (fun b:UInt8=>(b.toNat:Int));show Rd E.S E.w (.int .u8) (kF s)[i] ((((kF s).map fun n=>Value.int .u8 n).drop (i*1)).take 1);rw [Nat.mul_one,List.drop_eq_getElem_cons (by rw [List.length_map];exact hi),List.getElem_map,List.take_succ_cons,List.take_zero]
   have e3:Rd E.S E.w (.int .u8) (((s.data.toList[i]).toNat:Int):Den (.int .u8)) [Value.int .u8 ((s.data.toList[i]).toNat:Int)]:= .int (by
    have:=(s.data.toList[i]).toNat_lt
    unfold ok;have h1:IntKind.u8.min=0:=rfl;have h2:IntKind.u8.max=255:=rfl;rw [h1,h2]
    omega)
   exact (congrArg (fun q:Int=>Rd E.S E.w (.int .u8) q [Value.int .u8 q]) hg).mpr e3
 ·cases h;simp only [ae] at hx;exact empty _ _ rfl hx
 ·cases h;simp only [ae] at hx;obtain ⟨a,hx⟩:=hx;exact empty _ _ rfl hx
 ·rename_i hh ver;split at h
  case h_2=>cases h
  rename_i ver' rw' t' xs hH;split at h
  case isFalse=>cases h
  rename_i e;subst e;split at h
  case isFalse=>cases h
  rename_i e2;subst e2;cases h;rcases nr hE hH hx with ⟨_,h3,a,rfl⟩ |⟨b,cap,c,T,fr,h3,rfl,h5,h6,hcap,h7,h8,h9,h10,h11,h12⟩
  ·exact empty _ _ h3 rfl
  ·exact cells b 0 cap c T fr h5 (by rw [Nat.zero_add];exact h10) h11 rfl (fun i hi=>by rw [Nat.zero_add];exact h12 i hi)
 ·cases h
theorem zP (newLen:Nat) :∀ (rounds c:Nat),Builtin.growBy newLen rounds c<=max c (newLen +(newLen+768) / 4)
 | 0,c=>by simp [Builtin.growBy];omega
 | r+1,c=>by
  unfold Builtin.growBy;split
  ·omega
  ·have:=zP newLen r (c +(c+768) / 4)
   omega
theorem Ic {need old:Nat} (h:old<need):Builtin.nextslicecap need old<=2*need+1000:=by
 unfold Builtin.nextslicecap;split
 ·omega
 ·split
  ·omega
  ·have:=zP need 4 old
   omega
theorem Da {need old bytes:Nat} (h:old<need) (hb:bytes<=1000) (hn:need*bytes<=70368744177664) :¬(Builtin.nextslicecap need old*bytes>2 ^ 48):=by
 have h1:=Nat.mul_le_mul_right bytes (Ic h);have h2 :(2*need+1000)*bytes=2 *(need*bytes)+1000*bytes:=by rw [Nat.add_mul,Nat.mul_assoc]
 omega
theorem zh (z:Array Value) (n:Nat) :(Builtin.zeroCells z n).size=n*z.size:=by simp [Builtin.zeroCells]
theorem fQ {B:aK} {E:Env} (_:aM B E) {tS tX:TypeId} {tdS tdX te:TD} (hS:cy P tS tdS) (hX:cy P tX tdX) {e:TypeId} (hk:tdS.kind = .slice e) (hkX:Hg tdX) (hte:cy P e te)
  {z0 n0:Nat} (hsz:te.size=z0) (hzl:te.zero.length=te.size) (hb0:0<te.bytes) (hb1:te.bytes<=1000) {xv:Value} {a:Option Addr} {cap:Nat} {l:List Value} (src:SrcC P E z0 n0 xv a cap l)
  (base:Option Addr) (sLen sCap:Nat) (old:List Value) (hold:old.length=sLen*z0) (hrun :∀ (w:World),w.heap=E.w.heap->(Builtin.firstCells (z0) sLen (.slice base sLen sCap)).run P w = .ok old.toArray w)
  (hroom:sCap<sLen+n0) (hn :(sLen+n0)*te.bytes<=70368744177664) (ty:TypeId) :
  ∃ nc c,sLen+n0<=nc/\c.size=nc*z0/\c.toList.take ((sLen+n0)*z0)=old++l/\
   (Builtin.append_ #[tS,tX] ty #[.slice base sLen sCap,xv]).run P E.w = .ok (.slice (some ⟨E.w.heap.size,0,none⟩) (sLen+n0) nc) { E.w.drew with heap:=E.w.heap.push (.cells c e (0,0)) }:=by
 have hkS:=hS.kind;rw [hk] at hkS;simp only [bJ] at hkS;have hkX:=hkX.under hX;obtain ⟨z,hz,hzz⟩:=hte.zeroValue E.w.drew;have hzr:ai E te.zero z.cells.toList:=eF hzz;have hzs:z.cells.size=z0:=by have:=bk hzr;simp at this;omega
 obtain ⟨hbb,hbb2⟩:=hte.bytes E.w;have hq :(Question.appendCap (sLen+n0) sCap e).forced=false:=rfl
 let nc:=(Question.appendCap (sLen+n0) sCap e).cut (E.w.tape E.w.drawn (.appendCap (sLen+n0) sCap e))
 have hnc:sLen+n0<=nc:=Nat.le_add_right _ _;have h1:=Da hroom hb1 hn
 have hmax :¬(((sLen+n0:Nat):Int)>IntKind.i64.max/\(false=true\/te.bytes=0)):=by
  rintro ⟨_,h2⟩
  rcases h2 with h2|h2
  ·cases h2
  ·omega
 refine ⟨nc,old.toArray++l.toArray++Builtin.zeroCells z.cells (nc - (sLen+n0)),hnc,?_,?_,?_⟩
 ·simp only [Array.size_append,zh,List.size_toArray,hold,src.len,hzs];rw [<-Nat.add_mul,<-Nat.add_mul];congr 1;omega
 ·simp only [Array.toList_append];rw [List.take_append_of_le_length (by simp [hold,src.len,Nat.add_mul]),List.take_of_length_le (by simp [hold,src.len,Nat.add_mul])]
 ·have hfx:=src.run E.w.drew rfl;have hfo:=hrun E.w.drew rfl;have hlv:=src.val;have hne :¬(false=true):=by decide
  have hnn :(!false)=true:=rfl;have hb2 :∀ w,(typeInfo e).run P w = .ok ((P.info? e).getD default) w:=fun w=>(hte.bytes w).1;rcases hkX with ⟨eX,hkX'⟩|hkX'
  all_goals
   simp only [Builtin.append_,List.getElem?_toArray,List.getElem?_cons_zero,List.getElem?_cons_succ,Sem.run_bind,run_underlying hkS,Result.andThen_ok,hte.sizeOf,hsz,run_underlying hkX',Sem.run_pure,hlv,if_neg hne];rw [if_neg (by omega :¬ sLen+n0<=sCap)];simp only [Sem.run_bind,hb2,hbb2,Result.andThen_ok,if_neg hmax,if_neg h1];simp only [run_choose,hq,if_neg hne,Result.andThen_ok,run_askRoom];simp only [World.drew] at hfo hfx hz ⊢;simp only [hfo,hfx,hz,hnn,if_true,Result.andThen_ok,newRow,Sem.run_bind,run_newObj,Sem.run_pure];rfl
theorem gu {E:Env} {tS tX:TypeId} {tdS tdX te:TD} (hS:cy P tS tdS) (hX:cy P tX tdX) {e:TypeId} (hk:tdS.kind = .slice e) (hkX:Hg tdX) (hte:cy P e te)
  {z0 n0:Nat} (hsz:te.size=z0) {xv:Value} {a:Option Addr} {cap:Nat} {l:List Value} (src:SrcC P E z0 n0 xv a cap l)
  (base:Option Addr) (sLen sCap:Nat) (hroom:sLen+n0<=sCap) (ty:TypeId) (w':World) (hst :∀ a',base=some a'->(storeCells (a'.add (sLen*z0)) l).run P E.w = .ok () w') (hno:base=none->w'=E.w) :
  (Builtin.append_ #[tS,tX] ty #[.slice base sLen sCap,xv]).run P E.w = .ok (.slice base (sLen+n0) sCap) w':=by
 have hkS:=hS.kind;rw [hk] at hkS;simp only [bJ] at hkS;have hkX:=hkX.under hX;have hfx:=src.run E.w rfl;have hlv:=src.val;have hne :¬(false=true):=by decide
 have hnn :(!false)=true:=rfl;rcases hkX with ⟨eX,hkX'⟩|hkX'
 all_goals
  simp only [Builtin.append_,List.getElem?_toArray,List.getElem?_cons_zero,List.getElem?_cons_succ,Sem.run_bind,run_underlying hkS,Result.andThen_ok,hte.sizeOf,hsz,run_underlying hkX',Sem.run_pure,hlv,if_neg hne];rw [if_pos hroom];simp only [Sem.run_bind,hnn,if_true,hfx,Result.andThen_ok]
  cases base with
  | none=>rw [hno rfl];rfl
  | some a'=>simp only [Sem.run_bind,hst a' rfl,Result.andThen_ok,Sem.run_pure]
theorem Ke {B:aK} {E:Env} (hE:aM B E) (m:Nat) (hm :¬ E.U m) (h0:Nat) (hh:E.U h0\/h0=m) (t:Ty) (xs:List (Den t)) (c:Array Value) (T:TypeId) (cap:Nat) (hcap:c.size=cap*sz t) (hlc:xs.length<=cap) (hl:xs.length<=aW)
  (hx :∀ (i:Nat) (h:i<xs.length),Rd E.S E.w t xs[i] (gR c (i*sz t) (sz t))) :
  ∃ E',Good B E m [(h0,.row m true t xs)] { E.w with heap:=E.w.heap.push (.cells c T (0,0)) } E'/\ae E' (.osl h0 m) (.slice (some ⟨E.w.heap.size,0,none⟩) xs.length cap):=by
 have hsz:xs.length*sz t<=c.size:=by rw [hcap];exact Nat.mul_le_mul_right _ hlc
 have hS :¬ E.S E.w.heap.size:=fun h=>Nat.lt_irrefl _ (hE.stab _ h);have hget :(E.w.heap.push (.cells c T (0,0)))[E.w.heap.size]?=some (.cells c T (0,0)):=by simp
 obtain ⟨R,X⟩:=nX hE h0 (.row m true t xs) (some E.w.heap.size) { E.w with heap:=E.w.heap.push (.cells c T (0,0)) } (fun n=>E.U n\/n=m) (fun n h=> .inl h) hh
  ⟨rfl,rfl,rfl,by simp,fun b hb' _=>Below.heap_alloc E.w _ b hb'⟩ (fun b e=>by cases e;exact .inl ⟨Nat.le_refl _,by simp⟩) (fun b e=>by cases e;exact hS)
  (fun _ e _=>by cases e) (fun _ _ _ _ e _ h=>by cases e;exact absurd h hm)
  (fun X=>⟨.inr rfl,.inr ⟨_,c,T,(0,0),aE _ _ _,hget,(fun i _ h=>by simp at h),(fun _=>hS),(fun e=>by cases e),hsz,hl,fun i hi=>(hx i hi).ext X.s X.keepS⟩⟩)
 refine ⟨_,⟨R,X,rfl,(cL _ _ _).symm,fun n h=>?_⟩,?_⟩
 ·rcases h with h|h
  ·exact .inl h
  ·exact .inr ⟨by omega,by unfold KN;omega⟩
 ·simp only [ae];refine ⟨hh,.inr trivial,⟨_,_,_,rfl⟩,fun rw t' xs' hH=> .inr ⟨_,cap,c,T,(0,0),aE _ _ _,?_⟩⟩;simp only [aE,Option.some.injEq] at hH;cases hH;exact ⟨rfl,hget,hcap,hlc⟩
theorem S9 {B:aK} {E:Env} (hE:aM B E) (m:Nat) (hm :¬ E.U m) (h0:Nat) (hh:E.U h0\/h0=m) (t:Ty) (a:Option Addr) :
  ∃ E',Good B E m [(h0,.row m true t [])] E.w E'/\ae E' (.osl h0 m) (.slice a 0 0):=by
 obtain ⟨R,X⟩:=nX hE h0 (.row m true t []) none E.w (fun n=>E.U n\/n=m) (fun n h=> .inl h) hh
  ((dA.refl E.w _)) (fun b e=>by cases e) (fun b e=>by cases e) (fun _ e _=>by cases e) (fun _ _ _ _ e _ h=>by cases e;exact absurd h hm)
  (fun X=>⟨.inr rfl,.inl ⟨aE _ _ _,rfl⟩⟩)
 refine ⟨_,⟨R,X,rfl,(cL _ _ _).symm,fun n h=>?_⟩,?_⟩
 ·rcases h with h|h
  ·exact .inl h
  ·exact .inr ⟨by omega,by unfold KN;omega⟩
 ·simp only [ae];exact ⟨hh,.inr trivial,⟨_,_,_,rfl⟩,fun _ _ _ _=> .inl ⟨aE _ _ _,a,rfl⟩⟩
theorem iA {B:aK} {E:Env} {w1:World} {m:Nat} {dh:List (Nat×bd)} {w':World} {E':Env} (X:Ext E { E with w:=w1 }) (G:Good B { E with w:=w1 } m dh w' E'):Good B E m dh w' E':=
 ⟨G.rel,X.trans G.ext,G.w,G.h,G.u⟩
theorem zn {t:Ty} {S:Nat->Prop} {w:World} {xs ys:List (Den t)} {l0:List Value} (h0:l0.length=xs.length*sz t) {l:List Value} (hx :∀ (i:Nat) (h:i<xs.length),Rd S w t xs[i] ((l0.drop (i*sz t)).take (sz t)))
  (hy :∀ (i:Nat) (h:i<ys.length),Rd S w t ys[i] ((l.drop (i*sz t)).take (sz t))) (i:Nat) (h:i <(xs++ys).length):Rd S w t (xs++ys)[i] (((l0++l).drop (i*sz t)).take (sz t)):=by
 by_cases hi:i<xs.length
 ·rw [List.getElem_append_left hi];have hm :(i+1)*sz t<=xs.length*sz t:=Nat.mul_le_mul_right _ hi;rw [Nat.add_mul] at hm;rw [List.drop_append_of_le_length (by omega),List.take_append_of_le_length (by simp;omega)];exact hx i hi
 ·have hi':i - xs.length<ys.length:=by simp at h;omega
  rw [List.getElem_append_right (by omega)];obtain ⟨d,rfl⟩ :∃ d,i=xs.length+d:=⟨i - xs.length,by omega⟩
  have e :((l0++l).drop ((xs.length+d)*sz t))=l.drop (d*sz t):=by rw [Nat.add_mul,<-h0,List.drop_append,List.drop_eq_nil_of_le (by omega)];simp
  rw [e]
  have:=hy d (by omega)
  simpa using this
theorem wv {B:aK} {E:Env} (hE:aM B E) {tb:bG} (hT:cn P tb) {tS tX:TypeId} {tdS tdX:TD} (hS:cy P tS tdS) (hX:cy P tX tdX) (hkX:Hg tdX) (m:Nat) (hm :¬ E.U m) {s x:V} {sv xv:Value}
  (hs:ae E s sv) (hx:ae E x xv) (ty:TypeId) {ps:List Ob} {v:V} {dh:List (Nat×bd)} (h:lZ tb tdS E.H m s x = .val ps v dh) (hps :∀ p∈ps,p.holds) :
  ∃ v' w' E',(Builtin.append_ #[tS,tX] ty #[sv,xv]).run P E.w = .ok v' w'/\Good B E m dh w' E'/\ae E' v v':=by
 unfold lZ at h;split at h
 case h_2=>cases h
 rename_i e hk;split at h
 case h_2=>cases h
 rename_i te hte0;have hte:=hT _ _ hte0;split at h
 case h_2=>cases h
 rename_i t ht;split at h
 case isFalse=>cases h
 rename_i hc;obtain ⟨c1,c2,c3,c4⟩:=hc;split at h
 case h_2=>cases h
 rename_i ys hys;obtain ⟨a,cap,l,src⟩:=CZ (P:=P) hE hx hys;obtain ⟨R0,X0⟩:=BH hE E.w.drew rfl rfl rfl rfl
 have hsmall :∀ n,n*te.bytes<=70368744177664->n<=aW:=fun n hn=>by
  have:n*1<=n*te.bytes:=Nat.mul_le_mul_left _ c2
  unfold aW;omega
 have onto :∀ (h0:Nat) (hh:E.U h0\/h0=m) (base:Option Addr),ys.length*te.bytes<=70368744177664->sv = .slice base 0 0->
   ∃ v' w' E',(Builtin.append_ #[tS,tX] ty #[sv,xv]).run P E.w = .ok v' w'/\Good B E m [(h0,.row m true t ys)] w' E'/\ae E' (.osl h0 m) v':=fun h0 hh base hp esv=>by
  subst esv;rcases Nat.eq_zero_or_pos ys.length with hz|hz
  ·have hy0:ys=[]:=List.eq_nil_of_length_eq_zero hz;have hl0:l=[]:=List.eq_nil_of_length_eq_zero (by rw [src.len,hz,Nat.zero_mul]);obtain ⟨E',G,hv⟩:=S9 hE m hm h0 hh t base;have hrun:=gu hS hX hk hkX hte c1 src.toSrcC base 0 0 (by omega) ty E.w (fun a' _=>by rw [hl0];rfl) (fun _=>rfl);rw [hz] at hrun;subst hy0;exact ⟨_,_,E',hrun,G,hv⟩
  ·have hold :∀ (w:World),w.heap=E.w.heap->(Builtin.firstCells (sz t) 0 (.slice base 0 0)).run P w = .ok ([]:List Value).toArray w:=fun w _=>by
    cases base with
    | none=>simp [Builtin.firstCells]
    | some a=>simpa [Builtin.firstCells] using run_loadCells_list (P:=P) w a [] (fun j v hj=>by simp at hj)
   obtain ⟨nc,c,g1,g2,g3,g4⟩:=fQ hE hS hX hk hkX hte c1 c4 c2 c3 src.toSrcC base 0 0 [] (by simp) hold (by omega) (by rw [Nat.zero_add];exact hp) ty;simp only [Nat.zero_add,List.nil_append] at g1 g3 g4
   have hrd :∀ (i:Nat) (h:i<ys.length),Rd E.S E.w.drew t ys[i] (gR c (i*sz t) (sz t)):=fun i hi=>by
    have h1:=src.rd i hi;rw [<-g3] at h1;have hm :(i+1)*sz t<=ys.length*sz t:=Nat.mul_le_mul_right _ hi;rw [Nat.add_mul] at hm
    have e :((c.toList.take (ys.length*sz t)).drop (i*sz t)).take (sz t)=gR c (i*sz t) (sz t):=by simp only [gR,List.drop_take,List.take_take];congr 1;omega
    rw [e] at h1;exact h1.ext X0.s X0.keepS
   obtain ⟨E',G,hv⟩:=Ke R0 m hm h0 hh t ys c e nc g2 g1 (hsmall _ hp) hrd;exact ⟨_,_,E',g4,iA X0 G,hv⟩
 split at h
 ·cases h;simp only [ae] at hs;exact onto m (.inr rfl) none (hps _ (List.mem_singleton.2 rfl)) hs
 ·cases h;simp only [ae] at hs;obtain ⟨b0,hs⟩:=hs;exact onto m (.inr rfl) b0 (hps _ (List.mem_singleton.2 rfl)) hs
 ·rename_i hh ver;split at h
  case h_2=>cases h
  rename_i ver' t' xs hH;split at h
  case isFalse=>cases h
  rename_i e1;subst e1;split at h
  case isFalse=>cases h
  rename_i e2;subst e2;cases h;have hp:=hps _ (List.mem_singleton.2 rfl);simp only [Ob.holds] at hp;have hU:=hE.used _ _ hH;rcases nr hE hH hs with ⟨h2,h3,b0,h4⟩ |⟨b,cap',c,T,fr,h3,h4,h5,h6,hcap,h7,h8,h9,h10,h11,h12⟩
  ·subst h3
   have:=onto hh (.inl hU) b0 (by simpa using hp) h4
   simpa using this
  ·by_cases hroom:xs.length+ys.length<=cap'
   ·have hbd:xs.length*sz t'+l.length<=c.size:=by rw [src.len,h6,<-Nat.add_mul];exact Nat.mul_le_mul_right _ hroom
    obtain ⟨c',g1,g2⟩:=eP b l (xs.length*sz t') E.w c h5 hbd
    have hcs:c'.size=c.size:=by
     have:=congrArg List.length g2
     simp at this;omega
    have hrun:=gu hS hX hk hkX hte c1 src.toSrcC (some ⟨b,0,none⟩) xs.length cap' hroom ty (E.w.setCells b (xs.length*sz t') l) (fun a' ea=>by
     cases ea
     have:=run_storeCells_cells (P:=P) b (xs.length*sz t') l 0 E.w (fun j hj=>by rw [iR h5];simp;omega) (fun j hj=>pG h5 h7 (by omega)) src.one
     rw [cr]
     simpa using this) (fun en=>by cases en)
    obtain ⟨R,X⟩:=nX hE hh (.row m true t' (xs++ys)) (some b) (E.w.setCells b (xs.length*sz t') l) (fun n=>E.U n\/n=m) (fun n h=> .inl h) (.inl hU)
     (ee b (fun b1=>some b=some b1) rfl _ _ _) (fun b1 e=>by cases e;exact .inr ⟨h3,_,hH,rfl⟩) (fun b1 e=>by cases e;exact h8 rfl)
     (fun _ e _=>by cases e) (fun _ _ _ _ e _ h=>by cases e;exact absurd h hm)
     (fun X=>⟨.inr rfl,.inr ⟨b,c',T,fr,aE _ _ _,g1,ko h7 hcs,fun _=>h8 rfl,(fun e=>by cases e),by
      rw [hcs,h6,List.length_append];exact Nat.mul_le_mul_right _ hroom,by rw [List.length_append];exact hsmall _ hp,fun i hi=>by
       have key:Rd E.S E.w t' (xs++ys)[i] ((((c.toList.take (xs.length*sz t'))++l).drop (i*sz t')).take (sz t')):=by
        refine zn (by simp;omega) (fun j hj=>?_) src.rd i hi;have h1:=h12 j hj;have hm :(j+1)*sz t'<=xs.length*sz t':=Nat.mul_le_mul_right _ hj;rw [Nat.add_mul] at hm
        have e :((c.toList.take (xs.length*sz t')).drop (j*sz t')).take (sz t')=gR c (j*sz t') (sz t'):=by simp only [gR,List.drop_take,List.take_take];congr 1;omega
        rw [e];exact h1
       have hi2 :(i+1)*sz t'<=(xs.length+ys.length)*sz t':=Nat.mul_le_mul_right _ (by rw [List.length_append] at hi;exact hi);rw [Nat.add_mul,Nat.add_mul] at hi2
       have e:gR c' (i*sz t') (sz t') =(((c.toList.take (xs.length*sz t'))++l).drop (i*sz t')).take (sz t'):=by
        unfold gR;rw [g2]
        have hlen :(c.toList.take (xs.length*sz t')++l).length =(xs.length+ys.length)*sz t':=by simp [src.len,Nat.add_mul];omega
        rw [List.drop_append_of_le_length (by rw [hlen,Nat.add_mul];omega),List.take_append_of_le_length (by rw [List.length_drop,hlen,Nat.add_mul];omega)]
       show Rd E.S (E.w.setCells b (xs.length*sz t') l) t' (xs++ys)[i] (gR c' (i*sz t') (sz t'));rw [e]
       exact key.ext X.s X.keepS⟩⟩)
    refine ⟨_,_,_,by rw [h4];exact hrun,⟨R,X,rfl,(cL _ _ _).symm,fun n h=>?_⟩,?_⟩
    ·rcases h with h|h
     ·exact .inl h
     ·exact .inr ⟨by omega,by unfold KN;omega⟩
    ·simp only [ae];refine ⟨.inl hU,.inr trivial,⟨_,_,_,rfl⟩,fun rw t2 xs2 hH2=> .inr ⟨b,cap',c',T,fr,aE _ _ _,?_⟩⟩;simp only [aE,Option.some.injEq] at hH2;cases hH2;exact ⟨by rw [List.length_append],g1,by rw [hcs];exact h6,by rw [List.length_append];exact hroom⟩
   ·have hl0 :(gR c 0 (xs.length*sz t')).length=xs.length*sz t':=vK _ _ _ (by omega)
    obtain ⟨nc,c',g1,g2,g3,g4⟩:=fQ hE hS hX hk hkX hte c1 c4 c2 c3 src.toSrcC (some ⟨b,0,none⟩) xs.length cap' (gR c 0 (xs.length*sz t')) hl0 (fun w hw=>by
     have hbw:w.heap[b]?=some (.cells c T fr):=by rw [hw];exact h5
     have:=run_loadCells_list (P:=P) w ⟨b,0,none⟩ (gR c 0 (xs.length*sz t')) (fun j v hj=>by
      rw [cr,iR hbw];rw [nA] at hj;split at hj
      ·exact hj
      ·cases hj)
     rw [hl0] at this
     simpa [Builtin.firstCells] using this) (by omega) hp ty
    have hrd :∀ (i:Nat) (h:i <(xs++ys).length),Rd E.S E.w.drew t' (xs++ys)[i] (gR c' (i*sz t') (sz t')):=fun i hi=>by
     have key:Rd E.S E.w t' (xs++ys)[i] (((gR c 0 (xs.length*sz t')++l).drop (i*sz t')).take (sz t')):=by
      refine zn hl0 (fun j hj=>?_) src.rd i hi;have h1:=h12 j hj;have hm :(j+1)*sz t'<=xs.length*sz t':=Nat.mul_le_mul_right _ hj;rw [Nat.add_mul] at hm
      have e :((gR c 0 (xs.length*sz t')).drop (j*sz t')).take (sz t')=gR c (j*sz t') (sz t'):=by simp only [gR,List.drop_zero,List.drop_take,List.take_take];congr 1;omega
      rw [e];exact h1
     rw [<-g3] at key;have hi2 :(i+1)*sz t'<=(xs.length+ys.length)*sz t':=Nat.mul_le_mul_right _ (by rw [List.length_append] at hi;exact hi);rw [Nat.add_mul] at hi2
     have e :((c'.toList.take ((xs.length+ys.length)*sz t')).drop (i*sz t')).take (sz t')=gR c' (i*sz t') (sz t'):=by simp only [gR,List.drop_take,List.take_take];congr 1;omega
     rw [e] at key;exact key.ext X0.s X0.keepS
    obtain ⟨E',G,hv⟩:=Ke R0 m hm hh (.inl hU) t' (xs++ys) c' e nc g2 (by rw [List.length_append];exact g1) (by rw [List.length_append];exact hsmall _ hp) hrd;refine ⟨_,_,E',by rw [h4];exact g4,iA X0 G,?_⟩;rw [List.length_append] at hv;exact hv
 ·cases h
end
section
open Go.RowKit
variable {P:Program}
theorem FF {α:Type} (a:Array α) (x:α) (f:α->α) :(a.push x).modify a.size f=a.push (f x):=by
 apply Array.ext
 ·simp
 ·intro i h1 h2;simp only [Array.getElem_modify,Array.getElem_push];by_cases h:i<a.size
  ·have :¬ a.size=i:=by omega
   simp [h,this]
  ·have:a.size=i:=by simp at h1;omega
   simp [this]
theorem uG (w:World) (c:Array Value) (T:TypeId) :
  World.freeze { w with heap:=w.heap.push (.cells c T (0,0)) } ⟨w.heap.size,c.size,none⟩ 1={ w with heap:=w.heap.push (.cells c T (c.size,c.size+1)) }:=by
 unfold World.freeze;rw [if_neg (by decide)];simp only [FF];rfl
theorem IE {B:aK} {E:Env} (hE:aM B E) (m:Nat) (hm :¬ E.U m) (t:Ty) (xs:List (Den t)) (c:Array Value) (T:TypeId) (cap:Nat) (hcap:c.size=cap*sz t) (hlc:xs.length<=cap) (hl:xs.length<=aW)
  (hx :∀ (i:Nat) (h:i<xs.length),Rd E.S E.w t xs[i] (gR c (i*sz t) (sz t))) :
  ∃ E',Good B E m [(m,.row m true t xs)] { E.w with heap:=E.w.heap.push (.cells c T (c.size,c.size+1)) } E'/\ae E' (.osl m m) (.slice (some ⟨E.w.heap.size,0,none⟩) xs.length cap):=by
 have hsz:xs.length*sz t<=c.size:=by rw [hcap];exact Nat.mul_le_mul_right _ hlc
 have hS :¬ E.S E.w.heap.size:=fun h=>Nat.lt_irrefl _ (hE.stab _ h);have hget :(E.w.heap.push (.cells c T (c.size,c.size+1)))[E.w.heap.size]?=some (.cells c T (c.size,c.size+1)):=by simp
 obtain ⟨R,X⟩:=nX hE m (.row m true t xs) (some E.w.heap.size) { E.w with heap:=E.w.heap.push (.cells c T (c.size,c.size+1)) } (fun n=>E.U n\/n=m) (fun n h=> .inl h) (.inr rfl)
  ⟨rfl,rfl,rfl,by simp,fun b hb' _=>Below.heap_alloc E.w _ b hb'⟩ (fun b e=>by cases e;exact .inl ⟨Nat.le_refl _,by simp⟩) (fun b e=>by cases e;exact hS)
  (fun _ e _=>by cases e) (fun _ _ _ _ e _ h=>by cases e;exact absurd h hm)
  (fun X=>⟨.inr rfl,.inr ⟨_,c,T,(c.size,c.size+1),aE _ _ _,hget,(fun i hi h=>by have:=h.1;simp at this;omega),(fun _=>hS),(fun e=>by cases e),hsz,hl,fun i hi=>(hx i hi).ext X.s X.keepS⟩⟩)
 refine ⟨_,⟨R,X,rfl,(cL _ _ _).symm,fun n h=>?_⟩,?_⟩
 ·rcases h with h|h
  ·exact .inl h
  ·exact .inr ⟨by omega,by unfold KN;omega⟩
 ·simp only [ae];refine ⟨.inr trivial,.inr trivial,⟨_,_,_,rfl⟩,fun rw t' xs' hH=> .inr ⟨_,cap,c,T,(c.size,c.size+1),aE _ _ _,?_⟩⟩;simp only [aE,Option.some.injEq] at hH;cases hH;exact ⟨rfl,hget,hcap,hlc⟩
theorem yJ {B:aK} {E:Env} (hE:aM B E) {tb:bG} (hT:cn P tb) {s d:TypeId} {ts td:TD} (hs:cy P s ts) (hd:cy P d td) (m:Nat) (hm :¬ E.U m) {x:V} {xv:Value} (hx:ae E x xv) {ps:List Ob} {v:V} {dh:List (Nat×bd)}
  (h:Cx tb ts td m x = .val ps v dh) :∃ v' w' E',(convert s d xv).run P E.w = .ok v' w'/\Good B E m dh w' E'/\ae E' v v':=by
 have hsk:=hs.kind;have hdk:=hd.kind;unfold Cx at h;split at h
 case h_2=>cases h
 rename_i e str h1 h2;split at h
 case h_2=>cases h
 rename_i te hte;have hek:=(hT _ _ hte).kind;split at h
 case h_2=>cases h
 rename_i h3;cases h;rw [h1] at hsk;rw [h2] at hdk;rw [h3] at hek;simp only [bJ] at hsk hdk hek;simp only [ae] at hx;obtain ⟨rfl,hlen⟩:=hx;obtain ⟨R0,X0⟩:=BH hE E.w.drew rfl rfl rfl rfl;generalize hq :(Question.appendCap str.size 0 e).cut (E.w.tape E.w.drawn (Question.appendCap str.size 0 e))=cap;have hcap:str.size<=cap:=by rw [<-hq];simp only [Question.cut];omega
 let c:Array Value:=(str.data.map fun b=>Value.int .u8 b.toNat)++Array.replicate (cap - str.size) (.int .u8 0)
 have hds:str.data.size=str.size:=ByteArray.size_data;have hcs:c.size=cap*sz (.int .u8):=by simp [c,sz,hds];omega
 have hl :(bm str).length=str.size:=by simp [bm,hds]
 have hl1 :(bm str).length<=cap:=by rw [hl];exact hcap
 have hl2 :(bm str).length<=aW:=by rw [hl];exact hlen
 obtain ⟨E',G,hv⟩:=IE R0 m hm (.int .u8) (bm str) c e cap hcs hl1 hl2 (fun i hi=>by
  have hi0:i <(bm str).length:=hi;have hi':i<str.data.size:=by rw [hl] at hi0;omega
  have e1:gR c (i*sz (.int .u8)) (sz (.int .u8))=[Value.int .u8 (str.data[i].toNat:Int)]:=by simp only [gR,sz,Nat.mul_one,c,Array.toList_append,Array.toList_map];rw [List.drop_append_of_le_length (by simp;omega),List.take_append_of_le_length (by simp;omega),List.drop_eq_getElem_cons (by simp;omega)];simp
  rw [e1];have e2 :(bm str)[i]'hi0 =(str.data[i].toNat:Int):=by simp [bm]
  have e3:Rd E.S E.w.drew (.int .u8) ((str.data[i].toNat:Int):Den (.int .u8)) [Value.int .u8 (str.data[i].toNat:Int)]:= .int (Pq _)
  exact (congrArg (fun q:Int=>Rd E.S E.w.drew (.int .u8) q [Value.int .u8 (str.data[i].toNat:Int)]) e2).mpr e3)
 rw [show @List.length (Den (.int .u8)) (bm str)=str.size from hl] at hv;refine ⟨_,_,E',?_,iA X0 G,hv⟩;have hfd:Question.forced (Question.appendCap str.size 0 e)=false:=rfl;have hns:E.w.drew.heap.size=E.w.heap.size:=rfl;simp only [convert,Sem.run_bind,run_underlying hsk,run_underlying hdk,run_underlying hek,Result.andThen_ok,Conv.stringToBytes,run_choose,hfd,hq];simp only [Bool.false_eq_true,if_false,Result.andThen_ok,newRow,Sem.run_bind,run_newObj,Sem.run_pure,markStringish,run_shape]
 have hsh:World.shape? { E.w.drew with heap:=E.w.drew.heap.push (.cells c e (0,0)) } E.w.drew.heap.size=some (e,c.size):=by have hget :(E.w.drew.heap.push (.cells c e (0,0)))[E.w.drew.heap.size]?=some (.cells c e (0,0)):=Array.getElem?_push_size;unfold World.shape?;simp only [hget]
 have hfz:=uG E.w.drew c e;simp only [World.drew] at hsh hfz ⊢;simp only [c] at hsh hfz;rw [hsh];simp only [Result.andThen_ok,run_freeze];rw [hfz]
end
section
open Go.RowKit
variable {P:Program}
theorem bp {l:List Nat} {i:Nat}:aX l i=true↔i∈l:=by
 induction l with
 | nil=>simp [aX]
 | cons k r ih=>simp only [aX,Bool.or_eq_true,ih,List.mem_cons,Nat.beq_eq];exact ⟨fun h=>h.imp Eq.symm id,fun h=>h.imp Eq.symm id⟩
theorem pT {H:a6} {L:List Nat} {h:Nat} {cs:List V}:vb H L h=some (.cells cs)↔H h=some (.cells cs):=by
 unfold vb
 cases hx:H h with
 | none=>simp
 | some k=>cases k <;> simp
theorem vJ {H:a6} {L:List Nat} {h ver:Nat} {rw':Bool} {t:Ty} {xs:List (Den t)} (hr:vb H L h=some (.row ver rw' t xs)) :∃ rw,H h=some (.row ver rw t xs)/\rw' =(bif aX L h then false else rw):=by
 unfold vb at hr
 cases hx:H h with
 | none=>rw [hx] at hr;cases hr
 | some k=>
  rw [hx] at hr
  cases k with
  | row ver rw t xs=>simp only [Option.some.injEq] at hr;cases hr;exact ⟨rw,rfl,rfl⟩
  | _=>cases hr
theorem xM {H:a6} {L:List Nat} {h ver esz:Nat} {cs:List V} (hr:vb H L h=some (.grow ver esz cs)):H h=some (.grow ver esz cs):=by
 unfold vb at hr;split at hr
 ·cases hr
 ·exact hr
theorem IU {H:a6} {L:List Nat} {h:Nat} {es:List (V×V)} (hr:vb H L h=some (.mp es)):H h=some (.mp es):=by
 unfold vb at hr;split at hr
 ·cases hr
 ·exact hr
theorem Dy {H:a6} {L:List Nat} {h k:Nat} {t:Ty} {x:Den t} (hr:vb H L h=some (.abs k t x)):H h=some (.abs k t x):=by
 unfold vb at hr;split at hr
 ·cases hr
 ·exact hr
theorem sL {H:a6} {L:List Nat} {h:Nat} {k:bd} (hr:vb H L h=some k) :∃ k0,H h=some k0/\∀ w b,uy w k b=uy w k0 b:=by
 cases k with
 | cells cs=>exact ⟨_,pT.1 hr,fun _ _=>rfl⟩
 | row ver rw t xs=>obtain ⟨rw0,h1,_⟩:=vJ hr;exact ⟨_,h1,fun _ _=>rfl⟩
 | grow ver esz cs=>exact ⟨_,xM hr,fun _ _=>rfl⟩
 | mp es=>exact ⟨_,IU hr,fun _ _=>rfl⟩
 | abs k t x=>exact ⟨_,Dy hr,fun _ _=>rfl⟩
theorem P9 {H:a6} {L:List Nat} {h:Nat} {k:bd} (hr:vb H L h=some k) :∃ k0,H h=some k0:=by
 unfold vb at hr
 cases hx:H h with
 | none=>rw [hx] at hr;cases hr
 | some k=>exact ⟨k,rfl⟩
def ae0 (E:Env) (L:List Nat) (b:Nat):Prop:=∃ h,h∈L/\(∃ (ver:Nat) (rw:Bool) (t:Ty) (xs:List (Den t)),E.H h=some (.row ver rw t xs))/\E.ρ h=some b
def cb (E:Env) (L:List Nat):Env:=⟨E.U,E.ρ,fun b=>E.S b\/ae0 E L b,E.w,vb E.H L⟩
theorem dI {B:aK} {E:Env} (hE:aM B E) (L:List Nat):aM B (cb E L)/\Ext E (cb E L):=by
 have X:Ext E (cb E L):=by refine ⟨fun _ h=>h,fun _ h=> .inl h,fun _ _=>rfl,fun h cs _ hx=>⟨⟨cs,pT.1 hx⟩,rfl⟩,fun h ver rw' t xs _ _ hx=>?_,fun h ver esz cs _ _ hx=>⟨cs,xM hx,rfl,rfl,fun b c T fr _ hw=>⟨c,T,fr,hw,rfl⟩⟩,fun h es _ hx=>⟨⟨es,IU hx⟩,rfl⟩,fun h k t x _ hx=>⟨⟨x,Dy hx⟩,rfl⟩⟩;obtain ⟨rw,h1,_⟩:=vJ hx;exact ⟨rw,xs,h1,rfl,rfl,fun b c T fr _ hw=>⟨c,T,fr,hw,rfl⟩⟩
 refine ⟨⟨fun h b hx=>?_,fun b hs=>?_,fun h k b hx hb=>?_,fun h1 h2 k1 k2 b x1 x2 b1 b2=>?_,fun h k hx=>?_,hE.keeps,fun h k b hx hb=>?_,fun b hs=> .inl (hE.s0 b hs),fun b hs=>?_⟩,X⟩
 ·obtain ⟨k0,h1⟩:=P9 hx;exact hE.used _ _ h1
 ·rcases hs with hs |⟨h,_,⟨ver,rw,t,xs,hx⟩,hb⟩
  ·exact hE.stab b hs
  ·exact hE.lt _ _ _ hx hb
 ·obtain ⟨k0,h1,h2⟩:=sL hx;exact hE.lt' _ _ _ h1 (hb.imp id fun ⟨b0,c1,c2⟩=>⟨b0,c1,by rw [<-h2];exact c2⟩)
 ·obtain ⟨_,y1,z1⟩:=sL x1;obtain ⟨_,y2,z2⟩:=sL x2;exact hE.inj' _ _ _ _ _ y1 y2 (b1.imp id fun ⟨b0,c1,c2⟩=>⟨b0,c1,by rw [<-z1];exact c2⟩) (b2.imp id fun ⟨b0,c1,c2⟩=>⟨b0,c1,by rw [<-z2];exact c2⟩)
 ·have notS :∀ k0 b,E.H h=some k0->(∀ (ver:Nat) (rw:Bool) (t:Ty) (xs:List (Den t)),k0 = .row ver rw t xs->h∉L)->fJ E h k0 b->¬ E.S b->¬(cb E L).S b:=fun k0 b hk hnot hb hs hs'=>by
   rcases hs' with hs' |⟨h2,hm,⟨ver,rw,t,xs,hx2⟩,hb2⟩
   ·exact hs hs'
   ·have:=hE.inj' _ _ _ _ _ hk hx2 hb (.inl hb2)
    subst this;rw [hk] at hx2;exact hnot _ _ _ _ (Option.some.inj hx2) hm
  cases k with
  | cells cs=>
   have h0:=pT.1 hx;exact di X rfl (fun _ _=>rfl) (fun b hb _ hs=>notS _ b h0 (fun _ _ _ _ e=>by cases e) hb hs) (hE.blk _ _ h0)
  | grow ver esz cs=>
   have h0:=xM hx;exact di X rfl (fun _ _=>rfl) (fun b hb _ hs=>notS _ b h0 (fun _ _ _ _ e=>by cases e) hb hs) (hE.blk _ _ h0)
  | abs kk t x=>
   have h0:=Dy hx;exact di X rfl (fun _ _=>rfl) (fun b hb _ hs=>notS _ b h0 (fun _ _ _ _ e=>by cases e) hb hs) (hE.blk _ _ h0)
  | mp es=>
   have h0:=IU hx;exact di X rfl (fun _ _=>rfl) (fun b hb _ hs=>notS _ b h0 (fun _ _ _ _ e=>by cases e) hb hs) (hE.blk _ _ h0)
  | row ver rw' t xs=>
   obtain ⟨rw,h0,e⟩:=vJ hx;obtain ⟨hu,hk⟩:=hE.blk _ _ h0;refine ⟨hu,?_⟩;rcases hk with ⟨k1,k2⟩ |⟨b,c,T,fr,k1,k2,k3,k4,k5,k6,k7,k8⟩
   ·exact .inl ⟨k1,k2⟩
   ·refine .inr ⟨b,c,T,fr,k1,k2,k3,fun e'=>?_,fun e'=>?_,k6,k7,fun i hi=>(k8 i hi).ext X.s X.keepS⟩
    ·cases hm:aX L h with
     | true=>rw [hm] at e;simp only [cond_true] at e;rw [e] at e';cases e'
     | false=>rw [hm] at e;simp only [cond_false] at e;exact notS _ b h0 (fun _ _ _ _ _ hl=>by rw [bp.2 hl] at hm;cases hm) (.inl k1) (k4 (by rw [<-e];exact e'))
    ·cases hm:aX L h with
     | true=>exact .inr ⟨h,bp.1 hm,⟨ver,rw,t,xs,h0⟩,k1⟩
     | false=>rw [hm] at e;simp only [cond_false] at e;exact .inl (k5 (by rw [<-e];exact e'))
 ·obtain ⟨k0,h1,h2⟩:=sL hx;exact hE.own' _ _ _ h1 (hb.imp id fun ⟨b0,c1,c2⟩=>⟨b0,c1,by rw [<-h2];exact c2⟩)
 ·rcases hs with hs |⟨h,_,⟨ver,rw,t,xs,hx⟩,hb⟩
  ·exact hE.sb b hs
  ·exact .inr (hE.own _ _ _ hx hb)
theorem mU (H:a6) (L:List Nat) (h:Nat):aQ H (gl H L) h=vb H L h:=by
 have key:find (gl H L) h=if h∈L then (match H h with|some (.row ver _ t xs)=>some (.row ver false t xs)|_=>none) else none:=by
  induction L with
  | nil=>simp [gl,find]
  | cons x L ih=>
   by_cases hx:x=h
   ·subst hx;simp only [List.mem_cons,true_or,if_true]
    cases hH:H x with
    | none=>simp only [gl,hH];rw [ih];simp [hH]
    | some k=>
     cases k with
     | row ver rw t xs=>simp [gl,hH,find]
     | _=>simp only [gl,hH];rw [ih];simp [hH]
   ·have hmem:h∈x::L↔h∈L:=by simp [Ne.symm hx]
    have hs:find (gl H (x::L)) h=find (gl H L) h:=by
     cases hH:H x with
     | none=>simp only [gl,hH]
     | some k=>
      cases k with
      | row ver rw t xs=>
       simp only [gl,hH,find]
       cases hb:Nat.beq x h with
       | true=>exact absurd (Nat.eq_of_beq_eq_true hb) hx
       | false=>rfl
      | _=>simp only [gl,hH]
    rw [hs,ih];simp only [hmem]
 unfold aQ vb;rw [key];by_cases hm:h∈L
 ·rw [if_pos hm]
  cases hH:H h with
  | none=>rfl
  | some k=>
   cases k with
   | row ver rw t xs=>simp [bp.2 hm]
   | _=>rfl
 ·rw [if_neg hm];have hf:aX L h=false:=by cases hx:aX L h with|true=>exact absurd (bp.1 hx) hm|false=>rfl
  cases hH:H h with
  | none=>rfl
  | some k=>
   cases k with
   | row ver rw t xs=>simp [hf]
   | _=>rfl
theorem rT (H:a6) (l r:List (Nat×bd)):aQ H (l++r)=aQ (aQ H r) l:=by
 have key :∀ (l r:List (Nat×bd)) (i:Nat),find (l++r) i=match find l i with|some v=>some v|none=>find r i:=fun l r i=>by
  induction l with
  | nil=>rfl
  | cons x l ih=>
   obtain ⟨k,v⟩:=x;simp only [List.cons_append,find]
   cases Nat.beq k i with
   | true=>rfl
   | false=>simpa using ih
 funext h;simp only [aQ,key];cases find l h <;> rfl
theorem Gs {E E':Env} (X:Ext E E') :∀ {parts:List (Nat×V)} {pv:List (Nat×Value)},qb E parts pv->qb E' parts pv
 | [],[],_=>trivial
 | _::_,[],h=>by simp [qb] at h
 | [],_::_,h=>by simp [qb] at h
 | _::_,_::_,h=>⟨h.1,ca X _ _ h.2.1,Gs X h.2.2⟩
theorem p8 {B:aK} {E:Env} (hE:aM B E) {tb:bG} (hT:cn P tb) {t:TypeId} {td:TD} (ht:cy P t td) (m:Nat) (hm :¬ E.U m) {n:Nat} {parts:List (Nat×V)} {pv:Array (Nat×Value)} (hp:qb E parts pv.toList)
  {ps:List Ob} {v:V} {dh:List (Nat×bd)} (h:gh tb td E.H m n parts = .val ps v dh) :∃ v' w' E',(Instr.buildSlice t n pv).run P E.w = .ok v' w'/\Good B E m dh w' E'/\ae E' v v':=by
 unfold gh at h;split at h
 case h_2=>exact jX hE hT ht m hm hp h
 cases he:WL tb td with
 | false=>rw [he] at h;cases h
 | true=>
  rw [he] at h;simp only [cond_true] at h;unfold ox at h;split at h
  ·rename_i ps' v0 dh' hb;cases h;obtain ⟨R,X⟩:=dI hE (tG (parts.map (·.2)));obtain ⟨v',w',E',h1,G,h3⟩:=jX (E:=cb E (tG (parts.map (·.2)))) R hT ht m hm (Gs X hp) (n:=n) (show eD tb td (cb E (tG (parts.map (·.2)))).H m n parts = .val ps v dh' from hb);refine ⟨v',w',E',h1,⟨G.rel,X.trans G.ext,G.w,?_,G.u⟩,h3⟩;rw [G.h,rT];congr 1;funext k;exact (mU E.H _ k).symm
  ·rename_i hne;exact absurd h (hne _ _ _)
end
end Go.aa
