/- Texts of the mirror and contracts, put together. -/
import Derived.Test.YthaeofeigglbhaaGreatDoorPQ3
import Derived.Shelf.Strconv.Itoa4
import Derived.Lib.ItoaLen
import Derived.Shelf.Strings.Prefix
import Derived.Shelf.Strings.SlTrimAscii
import Derived.Shelf.Strconv.ParseIntPublic10
import Derived.Shelf.Strings.Split
import Derived.Shelf.Strings.Cut
import Derived.Shelf.Strings.OnBuilder
import Derived.Test.YthaeofeigglbhaaGreatDoorPQ2
import Derived.LoopN
namespace Go.Mir
open Go.RowKit
variable {P:Program}
theorem CtrOK.mono {K K':Nat} {f:FuncId} {c:Ctr} (h:CtrOK P K f c) (hK:K≤K'):CtrOK P K' f c:=⟨h.fn,fun B E hE args av hav m hm ps v dh hc hp=>
 (h.calls B E hE args av hav m (fun n h1 h2=>hm n h1 (by omega)) ps v dh hc hp).mono fun _ _ ⟨E',v',h1,G,h2⟩=>
  ⟨E',v',h1,⟨G.rel,G.ext,G.w,G.h,fun n hn=>(G.u n hn).imp id fun h=>⟨h.1,by have:=h.2;omega⟩⟩,h2⟩⟩
theorem CtrsOK.consU {K' K:Nat} {f:FuncId} {c:Ctr} {l:zo} (h:CtrOK P K' f c) (hle:Nat.ble K' K=true) (hl:CtrsOK P K l):CtrsOK P K ((f,c)::l):= .cons (h.mono (Nat.le_of_ble_eq_true hle)) hl
def LoopsOKp (P:Program) (p N:Nat) (l:List Code) (Λ:Nat→Option LoopSum):Prop:=∀ b∈l,∀ L,Λ (rid b)=some L→LoopOKp P p N b L
theorem LoopsOKp.nil {p N:Nat} {Λ:Nat→Option LoopSum}:LoopsOKp P p N [] Λ:=fun b hb=>by simp at hb
theorem LoopsOKp.cons {p N:Nat} {b:Code} {l:List Code} {Λ:Nat→Option LoopSum} {L:LoopSum} (h0:Λ (rid b)=some L) (h1:LoopOKp P p N b L) (h2:LoopsOKp P p N l Λ):LoopsOKp P p N (b::l) Λ:=fun b' hb L' hL=>by
 rcases List.mem_cons.1 hb with rfl|hb
 ·rw [h0] at hL;cases hL;exact h1
 ·exact h2 b' hb L' hL
theorem LoopsOKp.at {p N:Nat} {fn:Func} {l:List Code} {Λ:Nat→Option LoopSum} (he:au Λ (kp fn)=l) (h:LoopsOKp P p N l Λ) :∀ c,fn.body=some c→∀ b∈au Λ c,∀ L,Λ (rid b)=some L→LoopOKp P p N b L:=fun c hc=>by
 have:kp fn=c:=by unfold kp;rw [hc]
 rw [←this,he]
 exact h
def kr (ts:List Ty):Pat:=⟨bn 0 (ts.map .h),[],0⟩
end Go.Mir
namespace Go.Proofs.YthaeofeigglbhaaGreatDoor
open Go Go.Mir
abbrev KE:Nat:=64
def dF (l:zo) (fn:Func):Cfg:=⟨tbl,find l,KE,fn.ntmps⟩
theorem ch {l:zo} (h:CtrsOK Tryz.prog KE l) (fn:Func):CfgOK Tryz.prog (dF l fn):=⟨BJ,by show 1≤KE;decide,h⟩
end Go.Proofs.YthaeofeigglbhaaGreatDoor
namespace Go.Proofs.YthaeofeigglbhaaGreatDoor
open Go Go.Mir
attribute [local irreducible] Go.Mir.DT.sat Go.Mir.evPat
abbrev I:Ty:= .int .i64
abbrev q3:Pat:=kr [I,I,I]
abbrev W (n:Int):Int:=IntKind.i64.wrap n
end Go.Proofs.YthaeofeigglbhaaGreatDoor
namespace Go.Proofs.YthaeofeigglbhaaGreatDoor
open Go Go.Mir Go.RowKit Go.Shelf
def uB:Go.Shelf.Ren:=⟨fun|173=>149|246=>232|283=>296|284=>297|285=>298|286=>299|129=>338|317=>337|318=>339|319=>340|320=>341|337=>375|338=>376|n=>n,fun|2=>2|3=>3|9=>9|4=>4|171=>398|0=>0|53=>263|37=>162|5=>5|173=>401|212=>433|51=>434|20=>20|213=>435|46=>416|232=>476|233=>477|n=>n,fun|17=>1|18=>6|19=>7|n=>n⟩
theorem CE:Go.Proofs.LaysM.n173 Tryz.prog uB where
 mixed:=by kernel_rfl
 f129:=Tryz.func338.trans (congrArg some (by kernel_rfl))
 f173:=Tryz.func149.trans (congrArg some (by kernel_rfl))
 f246:=Tryz.func232.trans (congrArg some (by kernel_rfl))
 f283:=Tryz.func296.trans (congrArg some (by kernel_rfl))
 f284:=Tryz.func297.trans (congrArg some (by kernel_rfl))
 f285:=Tryz.func298.trans (congrArg some (by kernel_rfl))
 f286:=Tryz.func299.trans (congrArg some (by kernel_rfl))
 f317:=Tryz.func337.trans (congrArg some (by kernel_rfl))
 f318:=Tryz.func339.trans (congrArg some (by kernel_rfl))
 f319:=Tryz.func340.trans (congrArg some (by kernel_rfl))
 f320:=Tryz.func341.trans (congrArg some (by kernel_rfl))
 f337:=Tryz.func375.trans (congrArg some (by kernel_rfl))
 f338:=Tryz.func376.trans (congrArg some (by kernel_rfl))
 t0:=Tryz.underlying0
 a0:=Tryz.isAgg0
 z0:=Tryz.sizeOf0
 v0:=Tryz.zeroValue0
 t2:=Tryz.underlying2
 a2:=Tryz.isAgg2
 z2:=Tryz.sizeOf2
 v2:=Tryz.zeroValue2
 t3:=Tryz.underlying3
 a3:=Tryz.isAgg3
 z3:=Tryz.sizeOf3
 v3:=Tryz.zeroValue3
 t4:=Tryz.underlying4
 a4:=Tryz.isAgg4
 z4:=Tryz.sizeOf4
 v4:=Tryz.zeroValue4
 t5:=Tryz.underlying5
 a5:=Tryz.isAgg5
 z5:=Tryz.sizeOf5
 v5:=Tryz.zeroValue5
 t9:=Tryz.underlying9
 a9:=Tryz.isAgg9
 z9:=Tryz.sizeOf9
 v9:=Tryz.zeroValue9
 t20:=Tryz.underlying20
 a20:=Tryz.isAgg20
 z20:=Tryz.sizeOf20
 v20:=Tryz.zeroValue20
 t37:=Tryz.underlying162
 a37:=Tryz.isAgg162
 z37:=Tryz.sizeOf162
 v37:=Tryz.zeroValue162
 t46:=Tryz.underlying416
 a46:=Tryz.isAgg416
 z46:=Tryz.sizeOf416
 v46:=Tryz.zeroValue416
 t51:=Tryz.underlying434
 a51:=Tryz.isAgg434
 z51:=Tryz.sizeOf434
 v51:=Tryz.zeroValue434
 t53:=Tryz.underlying263
 a53:=Tryz.isAgg263
 z53:=Tryz.sizeOf263
 v53:=Tryz.zeroValue263
 t171:=Tryz.underlying398
 a171:=Tryz.isAgg398
 z171:=Tryz.sizeOf398
 v171:=Tryz.zeroValue398
 t173:=Tryz.underlying401
 a173:=Tryz.isAgg401
 z173:=Tryz.sizeOf401
 v173:=Tryz.zeroValue401
 t212:=Tryz.underlying433
 a212:=Tryz.isAgg433
 z212:=Tryz.sizeOf433
 v212:=Tryz.zeroValue433
 t213:=Tryz.underlying435
 a213:=Tryz.isAgg435
 z213:=Tryz.sizeOf435
 t232:=Tryz.underlying476
 a232:=Tryz.isAgg476
 z232:=Tryz.sizeOf476
 v232:=Tryz.zeroValue476
 t233:=Tryz.underlying477
 a233:=Tryz.isAgg477
 z233:=Tryz.sizeOf477
 v233:=Tryz.zeroValue477
 g17:=by kernel_rfl
 g18:=by kernel_rfl
 g19:=by kernel_rfl
 i0:=by kernel_rfl
 i2:=by kernel_rfl
 i3:=by kernel_rfl
 i4:=by kernel_rfl
 i5:=by kernel_rfl
 i9:=by kernel_rfl
 i20:=by kernel_rfl
 i37:=by kernel_rfl
 i46:=by kernel_rfl
 i51:=by kernel_rfl
 i53:=by kernel_rfl
 i171:=by kernel_rfl
 i173:=by kernel_rfl
 i212:=by kernel_rfl
 i232:=by kernel_rfl
 i233:=by kernel_rfl
 m17:=by kernel_rfl
 m18:=by kernel_rfl
 m19:=by kernel_rfl
def bJ (n:Int):ByteArray:=⟨(Lib.itoa n).toArray⟩
abbrev Fz:Ty:= .prod (.int .i64) .unit
def x5:Den Fz→PRes:=fun x=>⟨[],.str (bJ x.1),[]⟩
def jF:FuncId×Ctr:=(75,aO KE Fz x5)
theorem FR {w:World} (h:iH w fun _=>False):Lib.TabIs Tryz.prog w "internal/strconv.uint64pow10" .u64 Lib.pow10Tab:=by
 obtain ⟨⟨o,h1,T,fr,rfl⟩,_⟩:=h (1,xA) (by unfold GL;simp)
 unfold Lib.TabIs World.var?
 rw [show Tryz.prog.globalNamed "internal/strconv.uint64pow10" = some 1 by kernel_rfl]
 simp only [Option.bind_some,h1]
theorem wz (w:World) (k:Nat) (os:Array Obj):Keeps w (fun _=>False) (Go.Sort.grow (w.drewN k) os):=
 ⟨rfl,rfl,rfl,by simp [Go.Sort.grow],fun b hb _=>by simp [Go.Sort.grow,Array.getElem?_append_left hb]⟩
set_option maxHeartbeats 1600000 in
theorem kP:CtrOK Tryz.prog KE 75 (aO KE Fz x5):=by
 refine lZ Tryz.func75 (by kernel_rfl) (by kernel_rfl) (fun _=>⟨rfl,rfl⟩) (fun x av w E hw _ hg hav=>?_) (fun _ _=>rfl)
 obtain ⟨n,⟨⟩⟩:=x
 obtain ⟨a,r,rfl,h1,h2⟩:=aR hav
 have h5:r=[]:=by cases r with|nil=>rfl|cons=>simp [eo,ab] at h2
 subst h5
 simp only [cW,aa] at h1
 obtain ⟨rfl,hk⟩:=h1
 have e1:IntKind.i64.min = -9223372036854775808:=by decide
 have e2:IntKind.i64.max=9223372036854775807:=by decide
 unfold ok at hk
 rw [e1,e2] at hk
 have hc:Calls Tryz.prog 75 #[.int .i64 n] w fun e w'=>e = .returned (.string (bJ n))∧∃ k os,w'=Go.Sort.grow (w.drewN k) os:=by
  go_enter Tryz.func75,Tryz.ntmps75
  go_wp2_with (go_at_call 149;refine (Any.strconv_FormatInt_10 CE n hk.1 hk.2 _ (FR hg)).mono ?_;rintro e w' ⟨rfl,k,os,rfl⟩)
  go_ret
  exact ⟨rfl,k,os,rfl⟩
 refine hc.mono fun e w' ⟨he,k,os,hw'⟩=>⟨_,he,by rw [hw'];exact wz _ _ _,fun E'=>?_⟩
 refine ⟨rfl,?_⟩
 show (Lib.itoa n).toArray.size≤ay
 have:=Lib.itoa_length_le n hk.1 hk.2
 rw [List.size_toArray]
 exact Nat.le_trans this (by decide)
end Go.Proofs.YthaeofeigglbhaaGreatDoor
namespace Go.Proofs.YthaeofeigglbhaaGreatDoor
open Go Go.Mir Go.RowKit Go.Shelf
def uw:Go.Shelf.Ren:=⟨fun|101=>236|208=>303|206=>343|n=>n,fun|9=>9|4=>4|3=>3|n=>n,fun|n=>n⟩
theorem CB:Go.Proofs.Lays.n101 Tryz.prog uw where
 mixed:=by kernel_rfl
 f101:=Tryz.func236.trans (congrArg some (by kernel_rfl))
 f206:=Tryz.func343.trans (congrArg some (by kernel_rfl))
 f208:=Tryz.func303.trans (congrArg some (by kernel_rfl))
 t3:=Tryz.underlying3
 a3:=Tryz.isAgg3
 z3:=Tryz.sizeOf3
 v3:=Tryz.zeroValue3
 t4:=Tryz.underlying4
 a4:=Tryz.isAgg4
 z4:=Tryz.sizeOf4
 v4:=Tryz.zeroValue4
 t9:=Tryz.underlying9
 a9:=Tryz.isAgg9
 z9:=Tryz.sizeOf9
 v9:=Tryz.zeroValue9
def uA:Go.Shelf.Ren:=⟨fun|160=>237|232=>305|231=>304|227=>306|234=>308|233=>307|236=>310|235=>309|228=>344|271=>346|151=>345|197=>301|120=>378|152=>377|260=>342|137=>174|119=>394|224=>324|225=>323|217=>257|266=>318|n=>n,fun|9=>9|4=>4|3=>3|5=>5|117=>409|116=>408|0=>0|124=>412|21=>21|105=>404|46=>416|119=>459|139=>462|138=>461|n=>n,fun|3=>4|4=>5|n=>n⟩
theorem CD:Go.Proofs.Lays.n160 Tryz.prog uA where
 mixed:=by kernel_rfl
 f119:=Tryz.func394.trans (congrArg some (by kernel_rfl))
 f120:=Tryz.func378.trans (congrArg some (by kernel_rfl))
 f137:=Tryz.func174.trans (congrArg some (by kernel_rfl))
 f151:=Tryz.func345.trans (congrArg some (by kernel_rfl))
 f152:=Tryz.func377.trans (congrArg some (by kernel_rfl))
 f160:=Tryz.func237.trans (congrArg some (by kernel_rfl))
 f197:=Tryz.func301.trans (congrArg some (by kernel_rfl))
 f217:=Tryz.func257.trans (congrArg some (by kernel_rfl))
 f224:=Tryz.func324.trans (congrArg some (by kernel_rfl))
 f225:=Tryz.func323.trans (congrArg some (by kernel_rfl))
 f227:=Tryz.func306.trans (congrArg some (by kernel_rfl))
 f228:=Tryz.func344.trans (congrArg some (by kernel_rfl))
 f231:=Tryz.func304.trans (congrArg some (by kernel_rfl))
 f232:=Tryz.func305.trans (congrArg some (by kernel_rfl))
 f233:=Tryz.func307.trans (congrArg some (by kernel_rfl))
 f234:=Tryz.func308.trans (congrArg some (by kernel_rfl))
 f235:=Tryz.func309.trans (congrArg some (by kernel_rfl))
 f236:=Tryz.func310.trans (congrArg some (by kernel_rfl))
 f260:=Tryz.func342.trans (congrArg some (by kernel_rfl))
 f266:=Tryz.func318.trans (congrArg some (by kernel_rfl))
 f271:=Tryz.func346.trans (congrArg some (by kernel_rfl))
 t0:=Tryz.underlying0
 a0:=Tryz.isAgg0
 z0:=Tryz.sizeOf0
 v0:=Tryz.zeroValue0
 t3:=Tryz.underlying3
 a3:=Tryz.isAgg3
 z3:=Tryz.sizeOf3
 v3:=Tryz.zeroValue3
 t4:=Tryz.underlying4
 a4:=Tryz.isAgg4
 z4:=Tryz.sizeOf4
 v4:=Tryz.zeroValue4
 t5:=Tryz.underlying5
 a5:=Tryz.isAgg5
 z5:=Tryz.sizeOf5
 v5:=Tryz.zeroValue5
 t9:=Tryz.underlying9
 a9:=Tryz.isAgg9
 z9:=Tryz.sizeOf9
 v9:=Tryz.zeroValue9
 t21:=Tryz.underlying21
 a21:=Tryz.isAgg21
 z21:=Tryz.sizeOf21
 v21:=Tryz.zeroValue21
 t46:=Tryz.underlying416
 a46:=Tryz.isAgg416
 z46:=Tryz.sizeOf416
 v46:=Tryz.zeroValue416
 t105:=Tryz.underlying404
 a105:=Tryz.isAgg404
 z105:=Tryz.sizeOf404
 v105:=Tryz.zeroValue404
 t116:=Tryz.underlying408
 a116:=Tryz.isAgg408
 z116:=Tryz.sizeOf408
 t117:=Tryz.underlying409
 a117:=Tryz.isAgg409
 z117:=Tryz.sizeOf409
 v117:=Tryz.zeroValue409
 t119:=Tryz.underlying459
 a119:=Tryz.isAgg459
 z119:=Tryz.sizeOf459
 t124:=Tryz.underlying412
 a124:=Tryz.isAgg412
 z124:=Tryz.sizeOf412
 v124:=Tryz.zeroValue412
 t138:=Tryz.underlying461
 a138:=Tryz.isAgg461
 z138:=Tryz.sizeOf461
 v138:=Tryz.zeroValue461
 t139:=Tryz.underlying462
 a139:=Tryz.isAgg462
 z139:=Tryz.sizeOf462
 v139:=Tryz.zeroValue462
 g3:=by kernel_rfl
 g4:=by kernel_rfl
def minusB:ByteArray:=⟨#[45]⟩
def digsB:ByteArray:=⟨#[48,49,50,51,52,53,54,55,56,57]⟩
def jS (s:ByteArray):Bool:=
 let d:=Lib.trimPrefix s.data.toList minusB.data.toList
 !(d.isEmpty ||(d.headD 0==48&&!(s.toList==[48])))&&(Lib.trimS d digsB.data.toList).isEmpty
theorem D9 {b:UInt8} (h :(b.toNat:Int)=48):b=48:=UInt8.toNat_inj.1 (by show b.toNat=48;omega)
set_option maxHeartbeats 3200000 in
theorem fS (s:ByteArray) (w:World) (hs:s.size≤ay):Calls Tryz.prog 152 #[.string s] w fun e w'=>e = .returned (.bool (jS s))∧Below w.heap.size w w':=by
 have hl :(Lib.trimPrefix s.data.toList minusB.data.toList).length≤ay:=by
  unfold Lib.trimPrefix
  have:s.data.toList.length≤ay:=by rw [Array.length_toList];exact hs
  split
  ·rw [List.length_drop];omega
  ·exact this
 have cT :∀ w,Calls Tryz.prog 237 #[.string ⟨(Lib.trimPrefix s.data.toList minusB.data.toList).toArray⟩,.string digsB] w fun e w'=>e = .returned (.string ⟨(Lib.trimS (Lib.trimPrefix s.data.toList minusB.data.toList) digsB.data.toList).toArray⟩)∧Below w.heap.size w w':=fun w=>
  Any.strings_Trim_laid CD (by kernel_rfl) ⟨(Lib.trimPrefix s.data.toList minusB.data.toList).toArray⟩ digsB w (by show (Lib.trimPrefix s.data.toList minusB.data.toList).toArray.size≤_;rw [List.size_toArray];exact Nat.le_trans hl (by decide)) (by decide) (ascii_of_all (by decide))
 have cP :∀ w,Calls Tryz.prog 236 #[.string s,.string minusB] w fun e w'=>e = .returned (.string ⟨(Lib.trimPrefix s.data.toList minusB.data.toList).toArray⟩)∧w'=w:=fun w=>Any.strings_TrimPrefix CB s minusB w
 unfold jS
 generalize Lib.trimPrefix s.data.toList minusB.data.toList=d at *
 unfold minusB at cP
 unfold digsB at cT
 go_enter Tryz.func152,Tryz.ntmps152
 go_wp2_with (first |(go_at_call 236;refine (cP _).mono ?_;rintro e w' ⟨rfl,rfl⟩) |(go_at_call 237;refine (cT _).mono ?_;rintro e w' ⟨rfl,hB⟩))
 all_goals (try go_ret)
 ·rename_i h
  subst h
  exact ⟨congrArg (fun b=>Ending.returned (.bool b)) (by rfl),Below.refl _ _⟩
 ·rename_i h3 h2 h1 h
  cases d with
  | nil=>exact absurd rfl h3
  | cons b t=>
  have hb:b=48:=D9 h1
  rcases h with h|h
  ·exact absurd h (by simp)
  subst hb
  refine ⟨congrArg (fun b=>Ending.returned (.bool b)) ?_,Below.refl _ _⟩
  simp [h]
 ·rename_i h3 h2 h1 h
  cases d with
  | nil=>exact absurd rfl h3
  | cons b t=>
  have hb:b=48:=D9 h1
  subst hb
  refine ⟨congrArg (fun b=>Ending.returned (.bool b)) ?_,by assumption⟩
  show (Lib.trimS _ digsB.data.toList).isEmpty=_
  simp [h.2]
 ·rename_i h3 h2 h1 h
  cases d with
  | nil=>exact absurd rfl h3
  | cons b t=>exact absurd h (by simp)
 ·rename_i h3 h2 h1 h
  cases d with
  | nil=>exact absurd rfl h3
  | cons b t=>
  have hb :(b==48)=false:=by
   cases hb:b==48
   ·rfl
   ·exact absurd (by have:=eq_of_beq hb;subst this;rfl) h1
  refine ⟨congrArg (fun b=>Ending.returned (.bool b)) ?_,by assumption⟩
  show (Lib.trimS _ digsB.data.toList).isEmpty=_
  simp [hb]
 ·rename_i h
  exact absurd (List.length_pos_iff.2 (by assumption)) h
end Go.Proofs.YthaeofeigglbhaaGreatDoor
namespace Go.Proofs.YthaeofeigglbhaaGreatDoor
open Go Go.Mir Go.RowKit Go.Shelf
def uD:Go.Shelf.Ren:=⟨fun|174=>153|247=>238|245=>239|287=>311|279=>312|280=>313|281=>314|282=>315|321=>347|322=>348|316=>349|171=>224|205=>350|243=>294|246=>232|283=>296|284=>297|285=>298|286=>299|129=>338|317=>337|318=>339|319=>340|320=>341|337=>375|338=>376|n=>n,fun|9=>9|3=>3|2=>2|75=>171|85=>261|4=>4|167=>413|5=>5|53=>263|175=>414|46=>416|168=>417|37=>162|0=>0|210=>440|21=>21|127=>291|145=>466|143=>464|171=>398|173=>401|212=>433|51=>434|20=>20|213=>435|232=>476|233=>477|80=>51|n=>n,fun|15=>2|16=>3|17=>1|18=>6|19=>7|n=>n⟩
theorem sE:Go.Proofs.LaysC.n174 Tryz.prog uD where
 mixed:=by kernel_rfl
 f129:=Tryz.func338.trans (congrArg some (by kernel_rfl))
 f171:=Tryz.func224.trans (congrArg some (by kernel_rfl))
 f174:=Tryz.func153.trans (congrArg some (by kernel_rfl))
 f205:=Tryz.func350.trans (congrArg some (by kernel_rfl))
 f243:=Tryz.func294.trans (congrArg some (by kernel_rfl))
 f245:=Tryz.func239.trans (congrArg some (by kernel_rfl))
 f246:=Tryz.func232.trans (congrArg some (by kernel_rfl))
 f247:=Tryz.func238.trans (congrArg some (by kernel_rfl))
 f279:=Tryz.func312.trans (congrArg some (by kernel_rfl))
 f280:=Tryz.func313.trans (congrArg some (by kernel_rfl))
 f281:=Tryz.func314.trans (congrArg some (by kernel_rfl))
 f282:=Tryz.func315.trans (congrArg some (by kernel_rfl))
 f283:=Tryz.func296.trans (congrArg some (by kernel_rfl))
 f284:=Tryz.func297.trans (congrArg some (by kernel_rfl))
 f285:=Tryz.func298.trans (congrArg some (by kernel_rfl))
 f286:=Tryz.func299.trans (congrArg some (by kernel_rfl))
 f287:=Tryz.func311.trans (congrArg some (by kernel_rfl))
 f316:=Tryz.func349.trans (congrArg some (by kernel_rfl))
 f317:=Tryz.func337.trans (congrArg some (by kernel_rfl))
 f318:=Tryz.func339.trans (congrArg some (by kernel_rfl))
 f319:=Tryz.func340.trans (congrArg some (by kernel_rfl))
 f320:=Tryz.func341.trans (congrArg some (by kernel_rfl))
 f321:=Tryz.func347.trans (congrArg some (by kernel_rfl))
 f322:=Tryz.func348.trans (congrArg some (by kernel_rfl))
 f337:=Tryz.func375.trans (congrArg some (by kernel_rfl))
 f338:=Tryz.func376.trans (congrArg some (by kernel_rfl))
 t0:=Tryz.underlying0
 a0:=Tryz.isAgg0
 z0:=Tryz.sizeOf0
 v0:=Tryz.zeroValue0
 t2:=Tryz.underlying2
 a2:=Tryz.isAgg2
 z2:=Tryz.sizeOf2
 v2:=Tryz.zeroValue2
 t3:=Tryz.underlying3
 a3:=Tryz.isAgg3
 z3:=Tryz.sizeOf3
 v3:=Tryz.zeroValue3
 t4:=Tryz.underlying4
 a4:=Tryz.isAgg4
 z4:=Tryz.sizeOf4
 v4:=Tryz.zeroValue4
 t5:=Tryz.underlying5
 a5:=Tryz.isAgg5
 z5:=Tryz.sizeOf5
 v5:=Tryz.zeroValue5
 t9:=Tryz.underlying9
 a9:=Tryz.isAgg9
 z9:=Tryz.sizeOf9
 v9:=Tryz.zeroValue9
 t20:=Tryz.underlying20
 a20:=Tryz.isAgg20
 z20:=Tryz.sizeOf20
 v20:=Tryz.zeroValue20
 t21:=Tryz.underlying21
 a21:=Tryz.isAgg21
 z21:=Tryz.sizeOf21
 v21:=Tryz.zeroValue21
 t37:=Tryz.underlying162
 a37:=Tryz.isAgg162
 z37:=Tryz.sizeOf162
 v37:=Tryz.zeroValue162
 t46:=Tryz.underlying416
 a46:=Tryz.isAgg416
 z46:=Tryz.sizeOf416
 v46:=Tryz.zeroValue416
 t51:=Tryz.underlying434
 a51:=Tryz.isAgg434
 z51:=Tryz.sizeOf434
 v51:=Tryz.zeroValue434
 t53:=Tryz.underlying263
 a53:=Tryz.isAgg263
 z53:=Tryz.sizeOf263
 v53:=Tryz.zeroValue263
 t75:=Tryz.underlying171
 a75:=Tryz.isAgg171
 z75:=Tryz.sizeOf171
 v75:=Tryz.zeroValue171
 t85:=Tryz.underlying261
 a85:=Tryz.isAgg261
 z85:=Tryz.sizeOf261
 v85:=Tryz.zeroValue261
 t127:=Tryz.underlying291
 a127:=Tryz.isAgg291
 z127:=Tryz.sizeOf291
 v127:=Tryz.zeroValue291
 t143:=Tryz.underlying464
 a143:=Tryz.isAgg464
 z143:=Tryz.sizeOf464
 v143:=Tryz.zeroValue464
 t145:=Tryz.underlying466
 a145:=Tryz.isAgg466
 z145:=Tryz.sizeOf466
 v145:=Tryz.zeroValue466
 t167:=Tryz.underlying413
 a167:=Tryz.isAgg413
 z167:=Tryz.sizeOf413
 v167:=Tryz.zeroValue413
 t168:=Tryz.underlying417
 a168:=Tryz.isAgg417
 z168:=Tryz.sizeOf417
 v168:=Tryz.zeroValue417
 t171:=Tryz.underlying398
 a171:=Tryz.isAgg398
 z171:=Tryz.sizeOf398
 v171:=Tryz.zeroValue398
 t173:=Tryz.underlying401
 a173:=Tryz.isAgg401
 z173:=Tryz.sizeOf401
 v173:=Tryz.zeroValue401
 t175:=Tryz.underlying414
 a175:=Tryz.isAgg414
 z175:=Tryz.sizeOf414
 v175:=Tryz.zeroValue414
 t210:=Tryz.underlying440
 a210:=Tryz.isAgg440
 z210:=Tryz.sizeOf440
 v210:=Tryz.zeroValue440
 t212:=Tryz.underlying433
 a212:=Tryz.isAgg433
 z212:=Tryz.sizeOf433
 v212:=Tryz.zeroValue433
 t213:=Tryz.underlying435
 a213:=Tryz.isAgg435
 z213:=Tryz.sizeOf435
 t232:=Tryz.underlying476
 a232:=Tryz.isAgg476
 z232:=Tryz.sizeOf476
 v232:=Tryz.zeroValue476
 t233:=Tryz.underlying477
 a233:=Tryz.isAgg477
 z233:=Tryz.sizeOf477
 v233:=Tryz.zeroValue477
 g15:=by kernel_rfl
 g16:=by kernel_rfl
 g17:=by kernel_rfl
 g18:=by kernel_rfl
 g19:=by kernel_rfl
 t80:=Tryz.underlying51
 a80:=Tryz.isAgg51
 z80:=Tryz.sizeOf51
 v80:=Tryz.zeroValue51
 i0:=by kernel_rfl
 i2:=by kernel_rfl
 i3:=by kernel_rfl
 i4:=by kernel_rfl
 i5:=by kernel_rfl
 i9:=by kernel_rfl
 i20:=by kernel_rfl
 i21:=by kernel_rfl
 i37:=by kernel_rfl
 i46:=by kernel_rfl
 i51:=by kernel_rfl
 i53:=by kernel_rfl
 i75:=by kernel_rfl
 i80:=by kernel_rfl
 i85:=by kernel_rfl
 i127:=by kernel_rfl
 i143:=by kernel_rfl
 i145:=by kernel_rfl
 i167:=by kernel_rfl
 i168:=by kernel_rfl
 i171:=by kernel_rfl
 i173:=by kernel_rfl
 i175:=by kernel_rfl
 i210:=by kernel_rfl
 i212:=by kernel_rfl
 i232:=by kernel_rfl
 i233:=by kernel_rfl
 m15:=by kernel_rfl
 m16:=by kernel_rfl
 m17:=by kernel_rfl
 m18:=by kernel_rfl
 m19:=by kernel_rfl
 c0:=by kernel_rfl
 c2:=by kernel_rfl
 c3:=by kernel_rfl
 c4:=by kernel_rfl
 c5:=by kernel_rfl
 c9:=by kernel_rfl
 c20:=by kernel_rfl
 c21:=by kernel_rfl
 c37:=by kernel_rfl
 c46:=by kernel_rfl
 c51:=by kernel_rfl
 c53:=by kernel_rfl
 c75:=by kernel_rfl
 c80:=by kernel_rfl
 c85:=by kernel_rfl
 c127:=by kernel_rfl
 c143:=by kernel_rfl
 c145:=by kernel_rfl
 c167:=by kernel_rfl
 c168:=by kernel_rfl
 c171:=by kernel_rfl
 c173:=by kernel_rfl
 c175:=by kernel_rfl
 c210:=by kernel_rfl
 c212:=by kernel_rfl
 c213:=by kernel_rfl
 c232:=by kernel_rfl
 c233:=by kernel_rfl
def gz (s:ByteArray) (lo hi:Int):Int×Int:=
 if jS s then
  match Lib.parseIntB 64 s.data.toList with
  | .ok v=>if v<lo∨hi<v then (0,2) else (v,0)
  | _=>(0,2)
 else (0,4)
theorem tE (w:World) (T:TypeId) (s:ByteArray):Below w.heap.size w (Lib.bytesWorld w T s):=
 ⟨rfl,rfl,rfl,by rw [Lib.bytesWorld_size];omega,fun k hk=>Lib.bytesWorld_at_old w T s k hk⟩
def ErrCell (w:World) (b:Nat):Prop:=∃ o,w.heap[b]?=some o∧mn o
theorem ErrCell.below {w w':World} {b:Nat} (h:ErrCell w b) (hB:Below w.heap.size w w'):ErrCell w' b:=by
 obtain ⟨o,h1,h2⟩:=h
 refine ⟨o,?_,h2⟩
 rw [hB.block b]
 ·exact h1
 ·rcases Nat.lt_or_ge b w.heap.size with h|h
  ·exact h
  ·rw [Array.getElem?_eq_none h] at h1;cases h1
theorem ErrCell.at {w:World} {b:Nat} (h:ErrCell w b) :∃ ev,w.cell? ⟨b,0,none⟩=some ev∧∃ te pe,ev = .iface te pe:=by
 obtain ⟨o,h1,te,pe,T,fr,rfl⟩:=h
 exact ⟨_,by simp [World.cell?,h1],te,pe,rfl⟩
theorem y4 (s:ByteArray) (hs:s.size≤ay) (h :∀ v,Lib.parseIntB 64 s.data.toList≠ .ok v) (w:World) (h2:ErrCell w 2) (h3:ErrCell w 3) :
  Calls Tryz.prog 153 #[.string s,.int .i64 10,.int .i64 64] w fun e w'=>∃ z te pe,e = .returned (.tuple #[.int .i64 z,.iface te pe])∧Below w.heap.size w w':=by
 have hl:s.size≤281474976710656:=Nat.le_trans hs (by decide)
 obtain ⟨e2,c2,v2⟩:=h2.at
 obtain ⟨e3,c3,v3⟩:=h3.at
 cases hp:Lib.parseIntB 64 s.data.toList
 case ok v=>exact absurd hp (h v)
 case range=>exact (Any.strconv_ParseInt_10_at64_range sE s hl hp _ w c3 (.inr v3)).mono fun e w' ⟨N,h1,_,_,hB⟩=>⟨_,_,_,h1,hB⟩
 exact (Any.strconv_ParseInt_10_at64_syntax sE s hl hp _ w c2 (.inr v2)).mono fun e w' ⟨N,h1,_,_,hB⟩=>⟨_,_,_,h1,hB⟩
theorem Bb (s:ByteArray) (hs:s.size≤ay) {v:Int} (h:Lib.parseIntB 64 s.data.toList = .ok v) (w:World) :
  Calls Tryz.prog 153 #[.string s,.int .i64 10,.int .i64 64] w fun e w'=>e = .returned (.tuple #[.int .i64 v,.nilIface])∧Below w.heap.size w w':=
 (Any.strconv_ParseInt_10_at64_ok sE s (Nat.le_trans hs (by decide)) v h w).mono fun e w' ⟨h1,h2⟩=>⟨h1,by
  rcases h2 with rfl |⟨t,rfl⟩
  ·exact Below.refl _ _
  ·exact tE _ _ _⟩
def zq (w:World) (a b:Int) (e:Ending) (w':World):Prop:=e = .returned (.tuple #[.int .i64 a,.int .i64 b])∧Below w.heap.size w w'
set_option maxHeartbeats 3200000 in
theorem yU (s:ByteArray) (lo hi:Int) (w:World) (hs:s.size≤ay) (hb:jS s=false) :
  Calls Tryz.prog 79 #[.string s,.int .i64 lo,.int .i64 hi] w (zq w 0 4):=by
 have cD :∀ w,Calls Tryz.prog 152 #[.string s] w fun e w'=>e = .returned (.bool (jS s))∧Below w.heap.size w w':=fun w=>fS s w hs
 rw [hb] at cD
 go_enter Tryz.func79,Tryz.ntmps79
 go_wp2_with (go_at_call 152;refine (cD _).mono ?_;rintro e w' ⟨rfl,hB⟩)
 go_ret2
 exact ⟨rfl,by assumption⟩
set_option maxHeartbeats 3200000 in
theorem oE (s:ByteArray) (lo hi:Int) (w:World) (hs:s.size≤ay) (hb:jS s=true) (h :∀ v,Lib.parseIntB 64 s.data.toList≠ .ok v) (h2:ErrCell w 2) (h3:ErrCell w 3) :
  Calls Tryz.prog 79 #[.string s,.int .i64 lo,.int .i64 hi] w (zq w 0 2):=by
 have cD :∀ w,Calls Tryz.prog 152 #[.string s] w fun e w'=>e = .returned (.bool (jS s))∧Below w.heap.size w w':=fun w=>fS s w hs
 rw [hb] at cD
 have cI:=fun w=>y4 s hs h w
 go_enter Tryz.func79,Tryz.ntmps79
 go_wp2_with (first |(go_at_call 152;refine (cD _).mono ?_;rintro e w' ⟨rfl,hB⟩) |(go_at_call 153;refine (cI _ (h2.below hB) (h3.below hB)).mono ?_;rintro e w'' ⟨z,te,pe,rfl,hB2⟩))
 go_ret2
 exact ⟨rfl,hB.trans (hB2.mono hB.size)⟩
set_option maxHeartbeats 3200000 in
theorem qJ (s:ByteArray) (lo hi:Int) (w:World) (hs:s.size≤ay) (hb:jS s=true) {v:Int} (h:Lib.parseIntB 64 s.data.toList = .ok v) :
  Calls Tryz.prog 79 #[.string s,.int .i64 lo,.int .i64 hi] w fun e w'=>((v<lo∨hi<v)→zq w 0 2 e w')∧(¬(v<lo∨hi<v)→zq w v 0 e w'):=by
 have cD :∀ w,Calls Tryz.prog 152 #[.string s] w fun e w'=>e = .returned (.bool (jS s))∧Below w.heap.size w w':=fun w=>fS s w hs
 rw [hb] at cD
 have cI:=fun w=>Bb s hs h w
 go_enter Tryz.func79,Tryz.ntmps79
 go_wp2_with (first |(go_at_call 152;refine (cD _).mono ?_;rintro e w' ⟨rfl,hB⟩) |(go_at_call 153;refine (cI _).mono ?_;rintro e w'' ⟨rfl,hB2⟩))
 all_goals go_ret2
 ·exact ⟨fun _=>⟨rfl,hB.trans (hB2.mono hB.size)⟩,fun h=>absurd (by assumption) h⟩
 ·rename_i _ hr
  exact ⟨fun h=>by omega,fun _=>⟨rfl,hB.trans (hB2.mono hB.size)⟩⟩
 ·exact ⟨rfl,hB.trans (hB2.mono hB.size)⟩
theorem sN (s:ByteArray) (lo hi:Int) (w:World) (hs:s.size≤ay) (h2:ErrCell w 2) (h3:ErrCell w 3) :
  Calls Tryz.prog 79 #[.string s,.int .i64 lo,.int .i64 hi] w (zq w (gz s lo hi).1 (gz s lo hi).2):=by
 unfold gz
 cases hb:jS s with
 | false=>exact yU s lo hi w hs hb
 | true=>
  simp only [if_true]
  cases hp:Lib.parseIntB 64 s.data.toList
  case range=>exact oE s lo hi w hs hb (fun v h=>by rw [hp] at h;cases h) h2 h3
  case ok v=>
   simp only []
   by_cases hr:v<lo∨hi<v
   ·rw [if_pos hr]
    exact (qJ s lo hi w hs hb hp).mono fun e w' h=>h.1 hr
   ·rw [if_neg hr]
    exact (qJ s lo hi w hs hb hp).mono fun e w' h=>h.2 hr
  exact oE s lo hi w hs hb (fun v h=>by rw [hp] at h;cases h) h2 h3
theorem uQ (s:ByteArray) (lo hi:Int) :(gz s lo hi).1=0∨(lo≤(gz s lo hi).1∧(gz s lo hi).1≤hi):=by
 unfold gz
 repeat' split
 all_goals first|exact .inl rfl |(refine .inr ?_;show _≤_∧_≤_;omega)
theorem xP (s:ByteArray) (lo hi:Int) (k1:ok .i64 lo) (k2:ok .i64 hi):ok .i64 (gz s lo hi).1∧ok .i64 (gz s lo hi).2:=by
 have e1:IntKind.i64.min = -9223372036854775808:=by decide
 have e2:IntKind.i64.max=9223372036854775807:=by decide
 have hz:=uQ s lo hi
 have h0 :(gz s lo hi).2=0∨(gz s lo hi).2=2∨(gz s lo hi).2=4:=by
  unfold gz
  repeat' split
  all_goals simp
 unfold ok at *
 rw [e1,e2] at k1 k2 ⊢
 constructor
 ·rcases hz with hz|hz <;> omega
 ·rcases h0 with hz|hz|hz <;> omega
theorem nR {w:World} {b:Nat} {p:Obj→Prop} (h:iH w fun _=>False) (hm :(b,p)∈GL) (hp :∀ o,p o→mn o):ErrCell w b:=by
 obtain ⟨⟨o,h1,h2⟩,_⟩:=h (b,p) hm
 exact ⟨o,h1,hp o h2⟩
abbrev Bh:Ty:= .prod .str (.prod (.int .i64) (.prod (.int .i64) .unit))
def x6:Den Bh→PRes:=fun x=>⟨[],.tup [.int .i64 (gz x.1 x.2.1 x.2.2.1).1,.int .i64 (gz x.1 x.2.1 x.2.2.1).2],[]⟩
def ow:FuncId×Ctr:=(79,aO KE Bh x6)
theorem mV {w w':World} (h:Below w.heap.size w w'):Keeps w (fun _=>False) w':=
 ⟨h.os,h.tape,h.output,h.size,fun b hb _=>h.block b hb⟩
set_option maxHeartbeats 1600000 in
theorem qK:CtrOK Tryz.prog KE 79 (aO KE Bh x6):=by
 refine lZ Tryz.func79 (by kernel_rfl) (by kernel_rfl) (fun _=>⟨rfl,rfl⟩) (fun x av w E hw _ hg hav=>?_) (fun _ _=>rfl)
 obtain ⟨s,lo,hi,⟨⟩⟩:=x
 obtain ⟨a,r,rfl,⟨rfl,hs⟩,h1⟩:=aR hav
 obtain ⟨a,r,rfl,⟨rfl,k1⟩,h2⟩:=aR h1
 obtain ⟨a,r,rfl,⟨rfl,k2⟩,h3⟩:=aR h2
 have h5:r=[]:=by cases r with|nil=>rfl|cons=>simp [eo,ab] at h3
 subst h5
 refine (sN s lo hi w hs (nR hg (p:=mn) (by unfold GL;simp) fun _ h=>h) (nR hg (p:=mn) (by unfold GL;simp) fun _ h=>h)).mono fun e w' ⟨he,hB⟩=>⟨_,he,mV hB,fun E'=>?_⟩
 exact ⟨_,rfl,⟨rfl,(xP s lo hi k1 k2).1⟩,⟨rfl,(xP s lo hi k1 k2).2⟩,trivial⟩
end Go.Proofs.YthaeofeigglbhaaGreatDoor
namespace Go.Proofs.YthaeofeigglbhaaGreatDoor
open Go Go.Mir Go.RowKit Go.Shelf
def uy:Go.Shelf.Ren:=⟨fun|146=>78|221=>151|268=>233|138=>234|143=>235|195=>300|197=>301|218=>302|219=>272|260=>342|217=>257|225=>323|224=>324|267=>325|266=>318|314=>354|n=>n,fun|9=>9|31=>136|3=>3|4=>4|0=>0|105=>404|21=>21|5=>5|46=>416|119=>459|139=>462|138=>461|146=>444|51=>434|n=>n,fun|1=>0|3=>4|4=>5|n=>n⟩
theorem lays146:Go.Proofs.LaysM.n146 Tryz.prog uy where
 mixed:=by kernel_rfl
 f138:=Tryz.func234.trans (congrArg some (by kernel_rfl))
 f143:=Tryz.func235.trans (congrArg some (by kernel_rfl))
 f146:=Tryz.func78.trans (congrArg some (by kernel_rfl))
 f195:=Tryz.func300.trans (congrArg some (by kernel_rfl))
 f197:=Tryz.func301.trans (congrArg some (by kernel_rfl))
 f217:=Tryz.func257.trans (congrArg some (by kernel_rfl))
 f218:=Tryz.func302.trans (congrArg some (by kernel_rfl))
 f219:=Tryz.func272.trans (congrArg some (by kernel_rfl))
 f221:=Tryz.func151.trans (congrArg some (by kernel_rfl))
 f224:=Tryz.func324.trans (congrArg some (by kernel_rfl))
 f225:=Tryz.func323.trans (congrArg some (by kernel_rfl))
 f260:=Tryz.func342.trans (congrArg some (by kernel_rfl))
 f266:=Tryz.func318.trans (congrArg some (by kernel_rfl))
 f267:=Tryz.func325.trans (congrArg some (by kernel_rfl))
 f268:=Tryz.func233.trans (congrArg some (by kernel_rfl))
 f314:=Tryz.func354.trans (congrArg some (by kernel_rfl))
 t0:=Tryz.underlying0
 a0:=Tryz.isAgg0
 z0:=Tryz.sizeOf0
 v0:=Tryz.zeroValue0
 t3:=Tryz.underlying3
 a3:=Tryz.isAgg3
 z3:=Tryz.sizeOf3
 v3:=Tryz.zeroValue3
 t4:=Tryz.underlying4
 a4:=Tryz.isAgg4
 z4:=Tryz.sizeOf4
 v4:=Tryz.zeroValue4
 t5:=Tryz.underlying5
 a5:=Tryz.isAgg5
 z5:=Tryz.sizeOf5
 v5:=Tryz.zeroValue5
 t9:=Tryz.underlying9
 a9:=Tryz.isAgg9
 z9:=Tryz.sizeOf9
 v9:=Tryz.zeroValue9
 t21:=Tryz.underlying21
 a21:=Tryz.isAgg21
 z21:=Tryz.sizeOf21
 v21:=Tryz.zeroValue21
 t31:=Tryz.underlying136
 a31:=Tryz.isAgg136
 z31:=Tryz.sizeOf136
 v31:=Tryz.zeroValue136
 t46:=Tryz.underlying416
 a46:=Tryz.isAgg416
 z46:=Tryz.sizeOf416
 v46:=Tryz.zeroValue416
 t51:=Tryz.underlying434
 a51:=Tryz.isAgg434
 z51:=Tryz.sizeOf434
 v51:=Tryz.zeroValue434
 t105:=Tryz.underlying404
 a105:=Tryz.isAgg404
 z105:=Tryz.sizeOf404
 v105:=Tryz.zeroValue404
 t119:=Tryz.underlying459
 a119:=Tryz.isAgg459
 z119:=Tryz.sizeOf459
 t138:=Tryz.underlying461
 a138:=Tryz.isAgg461
 z138:=Tryz.sizeOf461
 v138:=Tryz.zeroValue461
 t139:=Tryz.underlying462
 a139:=Tryz.isAgg462
 z139:=Tryz.sizeOf462
 v139:=Tryz.zeroValue462
 t146:=Tryz.underlying444
 a146:=Tryz.isAgg444
 z146:=Tryz.sizeOf444
 v146:=Tryz.zeroValue444
 g1:=by kernel_rfl
 g3:=by kernel_rfl
 g4:=by kernel_rfl
 i0:=by kernel_rfl
 i3:=by kernel_rfl
 i4:=by kernel_rfl
 i5:=by kernel_rfl
 i9:=by kernel_rfl
 i21:=by kernel_rfl
 i31:=by kernel_rfl
 i46:=by kernel_rfl
 i51:=by kernel_rfl
 i105:=by kernel_rfl
 i138:=by kernel_rfl
 i139:=by kernel_rfl
 i146:=by kernel_rfl
 m1:=by kernel_rfl
 s1_3:=fun w h=>Go.Proofs.cell_of_shapedOpen_int (zero:=#[.int .i64 0]) (t:=3) h (of_decide_eq_true (by kernel_rfl)) (by kernel_rfl) rfl (by kernel_rfl) (by kernel_rfl) Tryz.underlying3
 m3:=by kernel_rfl
 m4:=by kernel_rfl
def toB (l:List UInt8):ByteArray:=⟨l.toArray⟩
abbrev Bi:Ty:= .prod .str (.prod .str .unit)
end Go.Proofs.YthaeofeigglbhaaGreatDoor
namespace Go.Proofs.YthaeofeigglbhaaGreatDoor
open Go Go.Mir Go.RowKit Go.Shelf
def ux:Go.Shelf.Ren:=⟨fun|145=>122|220=>190|219=>272|217=>257|225=>323|224=>324|267=>325|266=>318|314=>354|n=>n,fun|9=>9|4=>4|59=>206|3=>3|5=>5|46=>416|146=>444|51=>434|n=>n,fun|1=>0|n=>n⟩
theorem CC:Go.Proofs.Lays.n145 Tryz.prog ux where
 mixed:=by kernel_rfl
 f145:=Tryz.func122.trans (congrArg some (by kernel_rfl))
 f217:=Tryz.func257.trans (congrArg some (by kernel_rfl))
 f219:=Tryz.func272.trans (congrArg some (by kernel_rfl))
 f220:=Tryz.func190.trans (congrArg some (by kernel_rfl))
 f224:=Tryz.func324.trans (congrArg some (by kernel_rfl))
 f225:=Tryz.func323.trans (congrArg some (by kernel_rfl))
 f266:=Tryz.func318.trans (congrArg some (by kernel_rfl))
 f267:=Tryz.func325.trans (congrArg some (by kernel_rfl))
 f314:=Tryz.func354.trans (congrArg some (by kernel_rfl))
 t3:=Tryz.underlying3
 a3:=Tryz.isAgg3
 z3:=Tryz.sizeOf3
 v3:=Tryz.zeroValue3
 t4:=Tryz.underlying4
 a4:=Tryz.isAgg4
 z4:=Tryz.sizeOf4
 v4:=Tryz.zeroValue4
 t5:=Tryz.underlying5
 a5:=Tryz.isAgg5
 z5:=Tryz.sizeOf5
 v5:=Tryz.zeroValue5
 t9:=Tryz.underlying9
 a9:=Tryz.isAgg9
 z9:=Tryz.sizeOf9
 v9:=Tryz.zeroValue9
 t46:=Tryz.underlying416
 a46:=Tryz.isAgg416
 z46:=Tryz.sizeOf416
 v46:=Tryz.zeroValue416
 t51:=Tryz.underlying434
 a51:=Tryz.isAgg434
 z51:=Tryz.sizeOf434
 v51:=Tryz.zeroValue434
 t59:=Tryz.underlying206
 a59:=Tryz.isAgg206
 z59:=Tryz.sizeOf206
 v59:=Tryz.zeroValue206
 t146:=Tryz.underlying444
 a146:=Tryz.isAgg444
 z146:=Tryz.sizeOf444
 v146:=Tryz.zeroValue444
 g1:=by kernel_rfl
def mW:Go.Shelf.Ren:=⟨fun|156=>85|165=>157|166=>95|169=>97|240=>170|241=>242|276=>249|277=>316|n=>n,fun|31=>136|9=>9|3=>3|4=>4|0=>0|20=>20|72=>164|76=>172|70=>161|37=>162|75=>171|127=>291|164=>361|5=>5|80=>51|n=>n,fun|n=>n⟩
theorem xG:Go.Proofs.Lays.n156 Tryz.prog mW where
 mixed:=by kernel_rfl
 f156:=Tryz.func85.trans (congrArg some (by kernel_rfl))
 f165:=Tryz.func157.trans (congrArg some (by kernel_rfl))
 f166:=Tryz.func95.trans (congrArg some (by kernel_rfl))
 f169:=Tryz.func97.trans (congrArg some (by kernel_rfl))
 f240:=Tryz.func170.trans (congrArg some (by kernel_rfl))
 f241:=Tryz.func242.trans (congrArg some (by kernel_rfl))
 f276:=Tryz.func249.trans (congrArg some (by kernel_rfl))
 f277:=Tryz.func316.trans (congrArg some (by kernel_rfl))
 t0:=Tryz.underlying0
 a0:=Tryz.isAgg0
 z0:=Tryz.sizeOf0
 v0:=Tryz.zeroValue0
 t3:=Tryz.underlying3
 a3:=Tryz.isAgg3
 z3:=Tryz.sizeOf3
 v3:=Tryz.zeroValue3
 t4:=Tryz.underlying4
 a4:=Tryz.isAgg4
 z4:=Tryz.sizeOf4
 v4:=Tryz.zeroValue4
 t9:=Tryz.underlying9
 a9:=Tryz.isAgg9
 z9:=Tryz.sizeOf9
 v9:=Tryz.zeroValue9
 t20:=Tryz.underlying20
 a20:=Tryz.isAgg20
 z20:=Tryz.sizeOf20
 v20:=Tryz.zeroValue20
 t31:=Tryz.underlying136
 a31:=Tryz.isAgg136
 z31:=Tryz.sizeOf136
 v31:=Tryz.zeroValue136
 t37:=Tryz.underlying162
 a37:=Tryz.isAgg162
 z37:=Tryz.sizeOf162
 v37:=Tryz.zeroValue162
 t70:=Tryz.underlying161
 a70:=Tryz.isAgg161
 z70:=Tryz.sizeOf161
 v70:=Tryz.zeroValue161
 t72:=Tryz.underlying164
 a72:=Tryz.isAgg164
 z72:=Tryz.sizeOf164
 v72:=Tryz.zeroValue164
 t75:=Tryz.underlying171
 a75:=Tryz.isAgg171
 z75:=Tryz.sizeOf171
 v75:=Tryz.zeroValue171
 t76:=Tryz.underlying172
 a76:=Tryz.isAgg172
 z76:=Tryz.sizeOf172
 v76:=Tryz.zeroValue172
 t127:=Tryz.underlying291
 a127:=Tryz.isAgg291
 z127:=Tryz.sizeOf291
 v127:=Tryz.zeroValue291
 t164:=Tryz.underlying361
 a164:=Tryz.isAgg361
 z164:=Tryz.sizeOf361
 v164:=Tryz.zeroValue361
theorem uz:Builder.Extra Tryz.prog mW where
 sizeBuilder:=by kernel_rfl
 liesBuilder:=by kernel_rfl
 t5:=Tryz.underlying5
 a5:=Tryz.isAgg5
 z5:=Tryz.sizeOf5
 v5:=Tryz.zeroValue5
 infoByte:=by kernel_rfl
 cellsByte:=by kernel_rfl
 sizeByte:=by kernel_rfl
 neB5:=by decide
def iP (s sep:ByteArray):List UInt8×List UInt8×Bool:=Lib.cut s.data.toList sep.data.toList
abbrev Fy:Ty:= .prod .str (.prod .str .unit)
def BC:Den Fy→PRes:=fun x=>⟨[x.1.size≤1000000],.tup [.str (toB (iP x.1 x.2.1).1),.str (toB (iP x.1 x.2.1).2.1),.bool (iP x.1 x.2.1).2.2],[]⟩
def Gx:FuncId×Ctr:=(122,aO KE Fy BC)
theorem rO (s t:List UInt8) :(Lib.cut s t).1.length≤s.length∧(Lib.cut s t).2.1.length≤s.length:=by
 unfold Lib.cut
 split
 ·refine ⟨?_,?_⟩
  ·show (List.take _ _).length≤_
   rw [List.length_take];omega
  ·show (List.drop _ _).length≤_
   rw [List.length_drop];omega
 ·exact ⟨Nat.le_refl _,Nat.zero_le _⟩
theorem ju (l:List UInt8) :(toB l).size=l.length:=by
 show l.toArray.size=_
 rw [List.size_toArray]
theorem wy (w:World) (k:Nat):Keeps w (fun _=>False) (w.drewN k):=
 ⟨rfl,rfl,rfl,Nat.le_refl _,fun _ _ _=>rfl⟩
set_option maxHeartbeats 1600000 in
theorem GE:CtrOK Tryz.prog KE 122 (aO KE Fy BC):=by
 refine lZ Tryz.func122 (by kernel_rfl) (by kernel_rfl) (fun _=>⟨rfl,rfl⟩) (fun x av w E hw hn hg hav=>?_) (fun _ _=>rfl)
 obtain ⟨s,sep,⟨⟩⟩:=x
 have hs:s.size≤1000000:=hn _ List.mem_cons_self
 obtain ⟨a,r,rfl,⟨rfl,hs1⟩,h1⟩:=aR hav
 obtain ⟨a,r,rfl,⟨rfl,hs2⟩,h2⟩:=aR h1
 have h5:r=[]:=by cases r with|nil=>rfl|cons=>simp [eo,ab] at h2
 subst h5
 have hm :∃ m,w.cell? ⟨0,0,none⟩=some (.int .i64 m):=by
  obtain ⟨⟨o,h1,m,T,fr,rfl⟩,_⟩:=hg (0,wx) (by unfold GL;simp)
  exact ⟨m,by simp [World.cell?,h1]⟩
 obtain ⟨m,hm⟩:=hm
 have hL :(1000000:Nat)≤ay:=by decide
 obtain ⟨c1,c2⟩:=rO s.data.toList sep.data.toList
 have hsl:s.data.toList.length=s.size:=by rw [Array.length_toList];rfl
 refine (Any.strings_Cut CC s sep m w (by omega) hm).mono fun e w' ⟨he,n,hw'⟩=>⟨_,he,by rw [hw'];exact wy _ _,fun E'=>?_⟩
 refine ⟨_,rfl,⟨rfl,?_⟩,⟨rfl,?_⟩,rfl,trivial⟩
 ·show (toB _).size≤ay
  rw [ju];unfold iP;show (Lib.cut s.data.toList sep.data.toList).1.length≤ay;omega
 ·show (toB _).size≤ay
  rw [ju];unfold iP;show (Lib.cut s.data.toList sep.data.toList).2.1.length≤ay;omega
theorem yq {P:Program} {K:Nat} {f:FuncId} {fn:Func} (hf:P.funcs[f]?=some fn) (hbody:fn.body.isSome=true) (hname :(fn.name == "runtime.NumGoroutine")=false) {ps:Ty} {spec:Den ps→PRes} (hfl :∀ x,(spec x).rows=[]∧(spec x).v.noF=true)
  (h :∀ (x:Den ps) (av:List Value) (E:Env),wfD ps x→(∀ p∈(spec x).needs,p)→iH E.w (fun _=>False)→(∀ b,E.S b→b<E.w.heap.size)→ab E (eo ps x) av→Calls P f av.toArray E.w fun e w'=>∃ v',e = .returned v'∧Keeps E.w (fun _=>False) w'∧∀ E':Env,aa E' ((spec x).v.shift 0) v') (hsh :∀ x m,(spec x).v.shift m =(spec x).v.shift 0):CtrOK P K f (aO K ps spec):=by
 refine ⟨⟨fn,hf,hbody,hname⟩,fun B E hE args av hav m hm ps' v dh hct hps=>?_⟩
 unfold aO at hct
 simp only at hct
 split at hct
 case h_2=>cases hct
 rename_i x hx
 obtain ⟨hr,hn⟩:=hfl x
 have hflat :(spec x).flat=true:=by unfold PRes.flat;rw [hn,hr];rfl
 rw [hr,hflat] at hct
 simp only [List.length_nil,eP,cond_true,List.append_nil] at hct
 cases hle:Nat.ble 0 K with
 | false=>rw [hle] at hct;cases hct
 | true=>
  rw [hle] at hct
  simp only [cond_true,Option.some.injEq,Prod.mk.injEq] at hct
  obtain ⟨rfl,rfl,rfl⟩:=hct
  obtain ⟨hSE,XS⟩:=aY hE (hss args)
  obtain ⟨hav0,cs,hrd⟩:=cx hSE (Ec:=aF E (hss args)) rfl rfl (ax XS _ _ hav) hx
  refine (h x av (aF E (hss args)) ⟨_,_,_,hrd⟩ hps hE.glob0 hSE.stab hav0).mono fun e w' ⟨v',h1,h2,h3⟩=>?_
  obtain ⟨hE',X⟩:=DG hE w' h2
  refine ⟨{ E with w:=w' },v',h1,⟨hE',X,rfl,by funext z;simp [ah,find],fun n hn=> .inl hn⟩,?_⟩
  rw [hsh x m]
  exact h3 _
def iB (l:List ByteArray) (sep:ByteArray):ByteArray:=toB (Lib.join (l.map (·.data.toList)) sep.data.toList)
abbrev FA:Ty:= .prod (.slice .str) (.prod .str .unit)
def xa:Den FA→PRes:=fun x=>⟨[(iB x.1 x.2.1).size≤1000000],.str (iB x.1 x.2.1),[]⟩
def DI:FuncId×Ctr:=(85,aO KE FA xa)
theorem tJ {w:World} {b o i:Nat} {c:Array Value} {T:TypeId} {fr:Nat×Nat} {x:Value} (hb:w.heap[b]?=some (.cells c T fr)) (h:seg c (o+i*1) 1=[x]):w.cell? ⟨b,o+i,none⟩=some x:=by
 rw [Nat.mul_one] at h
 unfold seg at h
 have hx:c.toList[o+i]?=some x:=by
  have:=congrArg (·[0]?) h
  simpa [List.getElem?_take,List.getElem?_drop] using this
 simp only [World.cell?,hb]
 simpa using hx
set_option maxHeartbeats 1600000 in
theorem Fp:CtrOK Tryz.prog KE 85 (aO KE FA xa):=by
 refine yq Tryz.func85 (by kernel_rfl) (by kernel_rfl) (fun _=>⟨rfl,rfl⟩) (fun x av E hw hn hg hS hav=>?_) (fun _ _=>rfl)
 obtain ⟨l,sep,⟨⟩⟩:=x
 have hs :(iB l sep).size≤1000000:=hn _ List.mem_cons_self
 have hj :(Lib.join (l.map (·.data.toList)) sep.data.toList).length≤1000000:=by rw [←ju];exact hs
 have hL :(1000000:Nat)≤ay:=by decide
 obtain ⟨a,r,rfl,h0,h1⟩:=aR hav
 obtain ⟨a',r,rfl,⟨rfl,hs2⟩,h2⟩:=aR h1
 have h5:r=[]:=by cases r with|nil=>rfl|cons=>simp [eo,ab] at h2
 subst h5
 have h0:Rd E.S E.w (.slice .str) l [a]:=h0
 have fin :∀ {e:Ending} {w':World},(e = .returned (.string (iB l sep))∧Below E.w.heap.size E.w w')→∃ v',e = .returned v'∧Keeps E.w (fun _=>False) w'∧∀ E':Env,aa E' ((xa (l,sep,())).v.shift 0) v':=
  fun ⟨he,hB⟩=>⟨_,he,mV hB,fun E'=>⟨rfl,Nat.le_trans hs hL⟩⟩
 cases h0 with
 | nil=>exact (Any.strings_Join_none xG uz _ _ sep _).mono fun e w' ⟨he,hw⟩=>fin ⟨he,hw▸Below.refl _ _⟩
 | @slice _ _ b o cap c T fr hSb hb hsz hcap hlen hcl=>
  refine (Any.strings_Join xG uz b o cap l sep E.w (fun j x hjx=>?_) (hS b hSb) (Nat.le_trans hlen (by decide)) hcap (Nat.le_trans hj (by decide))).mono fun e w' h=>fin h
  obtain ⟨hjl,rfl⟩:=List.getElem?_eq_some_iff.1 hjx
  have h:=hcl j hjl
  generalize hg:seg c (o+j*sz .str) (sz .str)=z at h
  cases h with
  | str h=>exact tJ hb hg
def bZ (s sep:ByteArray):List ByteArray:=Lib.splitB sep 0 (Lib.countB s sep) s
def Fj:Den Bi→List Prop:=fun x=> [x.1.size≤1000000∧1≤x.2.1.size]
def Dy:Den Bi→List (Den .str):=fun x=>bZ x.1 x.2.1
def BD:Den Bi→PRes:=fun x=>⟨Fj x,.osl 0 0,[⟨.str,Dy x⟩]⟩
def xD:FuncId×Ctr:=(78,aO KE Bi BD)
theorem pd (sep:List UInt8) :∀ (k:Nat) (l:List UInt8),∀ p∈Lib.splitK sep 0 k l,p.length≤l.length
 | 0,l,p,h=>by
  have:=List.mem_singleton.1 h
  subst this
  exact Nat.le_refl _
 | k+1,l,p,h=>by
  unfold Lib.splitK at h
  split at h
  ·have:=List.mem_singleton.1 h
   subst this
   exact Nat.le_refl _
  ·rcases List.mem_cons.1 h with rfl|h
   ·rw [List.length_take];omega
   ·have:=pd sep k _ p h
    rw [List.length_drop] at this
    omega
theorem ng (s sep:ByteArray) :∀ p∈bZ s sep,p.size≤s.size:=fun p hp=>by
 have h:=Lib.splitB_data sep 0 (Lib.countB s sep) s
 have hm:p.data.toList∈Lib.splitK sep.data.toList 0 (Lib.countB s sep) s.data.toList:=by
  rw [←h]
  exact List.mem_map_of_mem hp
 have:=pd _ _ _ _ hm
 rw [Array.length_toList,Array.length_toList] at this
 exact this
theorem A4:CtrOK Tryz.prog KE 78 (aO KE Bi BD):=by
 refine tI (by decide) Tryz.func78 (by kernel_rfl) (by kernel_rfl) (by decide) (fun x av w E hw hn hg hav=>?_)
 obtain ⟨s,sep,⟨⟩⟩:=x
 obtain ⟨hs,hsep⟩:=hn _ List.mem_cons_self
 obtain ⟨a,r,rfl,⟨rfl,hs1⟩,h1⟩:=aR hav
 obtain ⟨a,r,rfl,⟨rfl,hs2⟩,h2⟩:=aR h1
 have h5:r=[]:=by cases r with|nil=>rfl|cons=>simp [eo,ab] at h2
 subst h5
 have hm :∃ m,w.cell? ⟨0,0,none⟩=some (.int .i64 m):=by
  obtain ⟨⟨o,h1,m,T,fr,rfl⟩,_⟩:=hg (0,wx) (by unfold GL;simp)
  exact ⟨m,by simp [World.cell?,h1]⟩
 obtain ⟨m,hm⟩:=hm
 have hs:s.size≤1000000:=hs
 have hsep:1≤sep.size:=hsep
 have hlen :(bZ s sep).length=Lib.countB s sep+1:=Lib.splitB_all sep hsep 0 _ s rfl
 have hle:=Lib.countB_le sep hsep s.size s (Nat.le_refl _)
 have hL :(2000000:Nat)≤ay:=by decide
 refine (Any.strings_Split { lays146 with } lays146.i9 s sep m w (by omega) hm hsep).mono fun e w' ⟨he,hw'⟩=>?_
 rw [←hlen] at he
 refine ⟨_,_,_,he,hw',?_,Nat.le_refl _,?_,fun S i hi=>?_⟩
 ·show ((bZ s sep).map Value.string).toArray.size =(bZ s sep).length*1
  simp
 ·show (bZ s sep).length≤ay
  omega
 ·have hi:i <(bZ s sep).length:=hi
  have hseg:seg ((bZ s sep).map Value.string).toArray (i*sz .str) (sz .str)=[.string (bZ s sep)[i]]:=by
   show (((bZ s sep).map Value.string).drop (i*1)).take 1=_
   rw [Nat.mul_one,List.drop_eq_getElem_cons (by simpa using hi)]
   simp
  show Rd S w .str ((bZ s sep)[i]) (seg ((bZ s sep).map Value.string).toArray (i*sz .str) (sz .str))
  rw [hseg]
  have:=ng s sep _ (List.getElem_mem hi)
  exact Rd.str (by omega)
end Go.Proofs.YthaeofeigglbhaaGreatDoor
namespace Go.Proofs.YthaeofeigglbhaaGreatDoor
open Go Go.Mir
attribute [local irreducible] Go.Mir.DT.sat Go.Mir.evPat Go.Mir.RT.sat Go.Mir.evFn
theorem Di (s:ByteArray) (a i:Nat):toB ((s.data.toList.take i).drop a)=s.extract a i:=by
 apply ByteArray.ext
 apply Array.ext'
 show ((s.data.toList.take i).drop a)=_
 rw [Lib.extract_data]
 simp [Array.toList_extract,List.extract_eq_take_drop,List.drop_take]
theorem eqC {c:Int} (b:UInt8) (h0:0≤c) (h1:c<256) :((b.toNat:Int)==c) =(b==UInt8.ofNat c.toNat):=by
 apply Bool.eq_iff_iff.2
 simp only [beq_iff_eq]
 constructor
 ·intro h
  have:c.toNat=b.toNat:=by omega
  rw [this];simp
 ·rintro rfl
  have:c.toNat<256:=by omega
  simp [UInt8.toNat_ofNat']
  omega
end Go.Proofs.YthaeofeigglbhaaGreatDoor
namespace Go.Proofs.YthaeofeigglbhaaGreatDoor
open Go Go.Mir
attribute [local irreducible] Go.Mir.DT.sat Go.Mir.evPat Go.Mir.RT.sat Go.Mir.evFn
abbrev qTn:Pat:=kr [I]
abbrev qTw:Pat:=kr [I,I]
abbrev vh:Pat:=kr [.str]
def uM (n:Int):Prop:=0≤n∧n≤1000000000000
def Fw (w:Int):Prop:=w=1
def Bz:Den (tyP qTw)→List Prop×Den (tyP vh):=fun x=>([uM x.1,Fw x.2.1],(bJ x.1,()))
def Bw:Den (tyP qTn)→List Prop×Den (tyP vh):=fun x=>([uM x.1],(bJ x.1,()))
abbrev qPt:Pat:=⟨[(1,.h I),(5,.h .str),(6,.h (.int .u64)),(7,.h .str),(8,.h .str)],[],0⟩
abbrev xPt:List (Lf×Pat):= [(.ext 0,⟨[(5,.h .str),(8,.h .str)],[],0⟩)]
abbrev TPt:Type:=Int×ByteArray×Int×ByteArray×ByteArray×Unit
def tenB:ByteArray:=⟨#[48,49,50,51,52,53,54,55,56,57]⟩
def sO (n:Int):ByteArray:=tenB.extract n.toNat (n+1).toNat
def oL (u:Int) (s:ByteArray):ByteArray:=if decide (u>0)||decide ((s.size:Int)<1) then toB (Lib.decDigits u.toNat++s.data.toList) else s
def qt (x:TPt):Prop:=x.1=1∧(0≤x.2.2.1∧x.2.2.1≤1000000000000)∧x.2.2.2.1=tenB∧(x.2.2.2.2.1.size:Int)+x.2.2.1≤2000000000000
def AW (x:TPt):Nat:=x.2.2.1.toNat +(if x.2.2.2.2.1.size=0 then 1 else 0)
def nh (x:TPt):ByteArray×ByteArray×Unit:=(x.2.1,oL x.2.2.1 x.2.2.2.2.1,())
theorem nJ {a b:ByteArray} (h:a.data.toList=b.data.toList):a=b:=ByteArray.ext (Array.toList_inj.1 h)
theorem ri {n:Int} (h0:0≤n) (h1:n<18446744073709551616):IntKind.u64.wrap n=n:=by
 simp only [IntKind.wrap,IntKind.bits,IntKind.signed]
 simp
 omega
theorem qL {n:Int} (h0:0≤n) (h1:n≤9) :(sO n).data.toList=[UInt8.ofNat (48+n.toNat)]:=by
 have key :((List.range 10).all fun k=>(sO (k:Int)).data.toList==[UInt8.ofNat (48+k)])=true:=by kernel_rfl
 have:=List.all_eq_true.1 key n.toNat (List.mem_range.2 (by omega))
 rw [show ((n.toNat:Nat):Int)=n from by omega] at this
 exact eq_of_beq this
theorem qM {n:Int} (h0:0≤n) (h1:n≤9) :(sO n).size=1:=by
 have :(sO n).data.toList.length=1:=by rw [qL h0 h1];rfl
 rw [Array.length_toList] at this
 exact this
theorem Ba {u:Int} {s:ByteArray} (h0:0≤u) (hb :(decide (u>0)||decide ((s.size:Int)<1))=true):oL (u / 10) (sO (u % 10)++s)=oL u s:=by
 have z :(sO (u % 10)++s).size=1+s.size:=by rw [ByteArray.size_append,qM (by omega) (by omega)]
 have l :(sO (u % 10)++s).data.toList=UInt8.ofNat (48 +(u % 10).toNat)::s.data.toList:=by
  rw [ByteArray.data_append,Array.toList_append,qL (by omega) (by omega)];rfl
 have hd:decide (((sO (u % 10)++s).size:Int)<1)=false:=decide_eq_false (by rw [z];omega)
 unfold oL
 rw [hd,Bool.or_false,if_pos hb]
 by_cases h10:u / 10>0
 ·rw [if_pos (decide_eq_true h10),l]
  have hu :¬ u.toNat<10:=by omega
  have e1 :(u / 10).toNat=u.toNat / 10:=by omega
  have e2 :(u % 10).toNat=u.toNat % 10:=by omega
  conv=>rhs;rw [Lib.decDigits,dif_neg hu]
  rw [e1,e2,List.append_assoc]
  rfl
 ·rw [if_neg (by simpa using h10)]
  apply nJ
  rw [l]
  have hu:u.toNat<10:=by omega
  have e2 :(u % 10).toNat=u.toNat:=by omega
  rw [Lib.decDigits,dif_pos hu,e2]
  rfl
noncomputable def lpPt:Lp:=(⟨0,dF [] Tryz.f150,(fun _=>none),(cG Tryz.f150 0),qPt,xPt⟩:Lp)
theorem FN (w:Int) (sg:ByteArray) (u:Int) (dg:ByteArray) (s:ByteArray) (hi:qt (w,sg,u,dg,s,())) :(Go.Mir.stepG lpPt nh (fun y:Den (tyP lpPt.q)=>qt y∧AW y<AW (w,sg,u,dg,s,())) (w,sg,u,dg,s,())∧Go.Mir.stepE lpPt nh (w,sg,u,dg,s,())=nh (w,sg,u,dg,s,())):=by
 refine cast (by kernel_rfl) (?_:let r1:Int:=IntKind.u64.wrap (u.tmod (10:Int) +(1:Int));let r2:Int:=if (20:Int)<w then (20:Int) else w;let r3:ByteArray:=dg.extract (u.tmod (10:Int)).toNat r1.toNat;let r4:Int:=if r2 >(1:Int) then r2 else (1:Int);let r5:Bool:=bif decide (u >(0:Int)) then true else decide ((↑s.size:Int)<r4);((r5=true→(10:Int)≠(0:Int)∧(10:Int)≠(0:Int)∧((0:Int)≤u.tmod (10:Int)∧u.tmod (10:Int)≤r1∧r1≤(↑dg.size:Int))∧r3.size+s.size≤ay∧(10:Int)≠(0:Int)∧qt (w,sg,IntKind.u64.wrap (u.tdiv (10:Int)),dg,r3++s,())∧AW (w,sg,IntKind.u64.wrap (u.tdiv (10:Int)),dg,r3++s,())<AW (w,sg,u,dg,s,()))∧(r5=false→True))∧(bif r5 then nh (w,sg,IntKind.u64.wrap (u.tdiv (10:Int)),dg,r3++s,()) else (sg,s,()))=nh (w,sg,u,dg,s,()))
 intro r1 r2 r3 r4 r5
 clear_value (hr1:r1=_) (hr2:r2=_) (hr3:r3=_) (hr4:r4=_) (hr5:r5=_)
 obtain ⟨h1,⟨h2,h3⟩,h4,h5⟩:=hi
 have h1:w=1:=h1
 have h2:0≤u:=h2
 have h3:u≤1000000000000:=h3
 have h4:dg=tenB:=h4
 have h5 :(s.size:Int)+u≤2000000000000:=h5
 have et:u.tmod 10=u % 10:=Int.tmod_eq_emod_of_nonneg h2
 have ed:u.tdiv 10=u / 10:=Int.tdiv_eq_ediv_of_nonneg h2
 rw [ed]
 rw [et] at hr1 hr3 ⊢
 have e1:r1=u % 10+1:=by rw [hr1];exact ri (by omega) (by omega)
 have e2:r2=1:=by rw [hr2,h1];rfl
 have e4:r4=1:=by rw [hr4,e2];rfl
 have e3:r3=sO (u % 10):=by rw [hr3,e1,h4];rfl
 have z3:=qM (n:=u % 10) (by omega) (by omega)
 have zs :(r3++s).size=1+s.size:=by rw [ByteArray.size_append,e3,z3]
 have eW:IntKind.u64.wrap (u / 10)=u / 10:=ri (by omega) (by omega)
 have hL :(3000000000000:Nat)≤ay:=by decide
 have e5:r5 =(decide (u>0)||decide ((s.size:Int)<1)):=by rw [hr5,e4];cases decide (u>0) <;> rfl
 have hc:r5=true→u>0∨(s.size:Int)<1:=fun h=>by rw [e5] at h;simpa using h
 have z10 :(tenB.size:Int)=10:=rfl
 rw [eW]
 refine ⟨⟨fun h=>⟨by decide,by decide,⟨by omega,by omega,by rw [h4];omega⟩,by rw [e3,z3];omega,by decide,⟨h1,⟨by show 0≤u / 10;omega,by show u / 10≤1000000000000;omega⟩,h4,?_⟩,?_⟩,fun _=>trivial⟩,?_⟩
 ·show ((r3++s).size:Int)+u / 10≤2000000000000
  rw [zs]
  rcases hc h with h|h <;> omega
 ·show (u / 10).toNat +(if (r3++s).size=0 then 1 else 0)<u.toNat +(if s.size=0 then 1 else 0)
  rw [zs,if_neg (by omega)]
  rcases hc h with h|h
  ·omega
  ·rw [if_pos (by omega)];omega
 ·cases hb:r5 with
  | true=>
   show (sg,oL (u / 10) (r3++s),()) =(sg,oL u s,())
   rw [e3,Ba h2 (e5▸hb)]
  | false=>
   rw [e5] at hb
   show (sg,s,()) =(sg,oL u s,())
   unfold oL
   rw [hb]
   rfl
noncomputable def D6:LoopSum:=bF lpPt nh qt
noncomputable def DU:Nat:=rid (cG Tryz.f150 0)
theorem Fb:LoopOKp Tryz.prog 0 Tryz.f150.ntmps (cG Tryz.f150 0) (bF lpPt nh qt):=
 dJ lpPt (ch (CtrsOK.nil) _) mixed (fun b hb S hS=>by cases hS) nh qt AW (fun |⟨w,sg,u,dg,s,⟨⟩⟩,hi=>FN w sg u dg s hi)
theorem vp (n:Int) (w:Int) (hk:uM n) (hw1:Fw w) :(evPat (dF [] Tryz.f150) (find [(DU,D6)]) Tryz.f150 qTw vh (n,w,())).sat fun z_=>z_ =(Bz (n,w,())).2:=by
 refine cast (by kernel_rfl) (?_:let r1:Bool:=decide (n <(0:Int));let r2:ByteArray:=bif r1 then ByteArray.mk #[45] else ByteArray.mk #[];let r3:Int:=bif r1 then IntKind.u64.wrap ((0:Int) - IntKind.u64.wrap n) else IntKind.u64.wrap n;let r4:ByteArray:=oL r3 (ByteArray.mk #[]);((uP fun x=>none)∧w =(1:Int)∧((0:Int)≤r3∧r3≤(1000000000000:Int))∧ByteArray.mk #[48,49,50,51,52,53,54,55,56,57]=tenB∧(↑(ByteArray.mk #[]).size:Int)+r3≤(2000000000000:Int))∧r2.size+r4.size≤ay∧(r2++r4,()) =(bJ n,()))
 intro r1 r2 r3 r4
 clear_value (hr1:r1=_) (hr2:r2=_) (hr3:r3=_) (hr4:r4=_)
 obtain ⟨k0,k1⟩:=hk
 have e1:r1=false:=by rw [hr1];exact decide_eq_false (by omega)
 have e2:r2=ByteArray.mk #[]:=by rw [hr2,e1];rfl
 have e3:r3=n:=by rw [hr3,e1];exact ri k0 (by omega)
 have hz:oL n ⟨#[]⟩=bJ n:=by
  unfold oL bJ
  rw [if_pos (Bool.or_eq_true_iff.2 (.inr (by decide))),Lib.itoa,if_neg (by omega)]
  simp [toB]
 have e4:r4=bJ n:=by rw [hr4,e3];exact hz
 have hl :(bJ n).size≤21:=by
  show (Lib.itoa n).toArray.size≤21
  rw [List.size_toArray]
  exact Lib.itoa_length_le n (by omega) (by omega)
 have hL :(500:Nat)≤ay:=by decide
 have z0 :(ByteArray.mk #[]).size=0:=rfl
 rw [e2,e3,e4,z0]
 exact ⟨⟨rfl,hw1,⟨k0,k1⟩,rfl,by omega⟩,by omega,congrArg (fun z=>(z,())) (nJ (by simp [ByteArray.data_append]))⟩
def qy:FuncId×Ctr:=(150,aE KE qTw vh Bz)
theorem wG:CtrOK Tryz.prog KE 150 (aE KE qTw vh Bz):=by
 refine ji (C:=dF [] Tryz.f150) (ch (CtrsOK.nil) _) mixed (fn:=Tryz.f150) Tryz.func150 (by kernel_rfl) (by kernel_rfl) (by kernel_rfl) (by kernel_rfl) (by kernel_rfl) (by kernel_rfl) (Λ:=fun x=>find [(DU,D6)]) ?_ ?_
 ·rintro ⟨n,w,⟨⟩⟩ hw hn
  exact LoopsOKp.at (by kernel_rfl) (.cons (by kernel_rfl) (Fb) .nil)
 ·rintro ⟨n,w,⟨⟩⟩ hw hn
  exact vp n w (hn _ List.mem_cons_self) (hn _ (List.mem_cons_of_mem _ List.mem_cons_self))
theorem s7 (n:Int) (hk:uM n) :(evPat (dF [qy] Tryz.f77) (fun _=>none) Tryz.f77 qTn vh (n,())).sat fun z_=>z_ =(Bw (n,())).2:=by
 refine cast (by kernel_rfl) (?_:uM n∧Fw (1:Int)∧(bJ n,()) =(bJ n,()))
 exact ⟨hk,rfl,rfl⟩
def gU:FuncId×Ctr:=(77,aE KE qTn vh Bw)
theorem jh:CtrOK Tryz.prog KE 77 (aE KE qTn vh Bw):=by
 refine ji (C:=dF [qy] Tryz.f77) (ch (.consU wG rfl .nil) _) mixed (fn:=Tryz.f77) Tryz.func77 (by kernel_rfl) (by kernel_rfl) (by kernel_rfl) (by kernel_rfl) (by kernel_rfl) (by kernel_rfl) (Λ:=fun _ _=>none) ?_ ?_
 ·exact fun _ _ _ _ _ _ _ _ h=>by cases h
 ·rintro ⟨n,⟨⟩⟩ hw hn
  exact s7 n (hn _ List.mem_cons_self)
end Go.Proofs.YthaeofeigglbhaaGreatDoor
namespace Go.Proofs.YthaeofeigglbhaaGreatDoor
open Go Go.Mir
attribute [local irreducible] Go.Mir.DT.sat Go.Mir.evPat Go.Mir.RT.sat Go.Mir.evFn
def A0 (n:Int) (b:Int):Int:=IntKind.u64.wrap (IntKind.u64.wrap (n*10)+IntKind.u64.wrap (IntKind.u8.wrap (b - 48)))
def nq:List UInt8→Int→Bool→Option (Int×Bool)
 | [],n,b=>some (n,b)
 | x::r,n,b=>if decide ((x.toNat:Int)<48)||decide ((x.toNat:Int)>57) then none else nq r (A0 n x.toNat) (b||decide (n>1152921504606846976))
def je (s:ByteArray):Bool:=!s.data.toList.isEmpty&&s.data.toList.headD 0==45
def bK (s:ByteArray):ByteArray:=if je s then s.extract 1 s.size else s
def Ae (neg:Bool) (lo hi:Int):Option (Int×Bool)→Int×Int
 | none=>(0,4)
 | some p=>
  if p.2 ||(decide (p.1>9223372036854775808) ||(p.1==9223372036854775808&&!neg)) then (0,2)
  else
   let v:=if neg then IntKind.i64.wrap (0 - IntKind.i64.wrap p.1) else IntKind.i64.wrap p.1
   if decide (v<lo)||decide (v>hi) then (0,2) else (v,0)
def cQ (s:ByteArray) (lo hi:Int):Int×Int:=
 let d:=bK s
 if d.data.toList.isEmpty ||(d.data.toList.headD 0==48&&(je s||decide ((d.size:Int)>1))) then (0,4)
 else Ae (je s) lo hi (nq d.data.toList 0 false)
theorem qG (x:UInt8) (r:List UInt8) (n:Int) (b:Bool):nq (x::r) n b=if decide ((x.toNat:Int)<48)||decide ((x.toNat:Int)>57) then none else nq r (A0 n x.toNat) (b||decide (n>1152921504606846976)):=rfl
end Go.Proofs.YthaeofeigglbhaaGreatDoor
namespace Go.Proofs.YthaeofeigglbhaaGreatDoor
open Go Go.Mir
def fw (c:UInt8):Bool:=decide (48≤c.toNat)&&decide (c.toNat≤57)
def jv:List UInt8→Nat→Nat
 | [],a=>a
 | c::r,a=>jv r (a*10 +(c.toNat - 48))
theorem ye :∀ (l:List UInt8) (a:Nat),a≤jv l a
 | [],_=>Nat.le_refl _
 | c::r,a=>by
  have:=ye r (a*10 +(c.toNat - 48))
  unfold jv
  omega
theorem yz (c:UInt8):digsB.data.toList.contains c=fw c:=by
 have key :∀ c:Fin 256,digsB.data.toList.contains (UInt8.ofNat c.val)=fw (UInt8.ofNat c.val):=by decide +kernel
 have:=key ⟨c.toNat,UInt8.toNat_lt c⟩
 simpa using this
theorem v8 (p:UInt8→Bool) :∀ l:List UInt8,l.dropWhile p=[]↔∀ x∈l,p x=true
 | []=>by simp
 | x::r=>by
  have ih:=v8 p r
  rw [List.dropWhile_cons]
  cases hp:p x
  ·simp [hp]
  ·simp [hp,ih]
theorem BP (p:UInt8→Bool) (l:List UInt8) :((l.reverse.dropWhile p).reverse.dropWhile p).isEmpty=l.all p:=by
 apply Bool.eq_iff_iff.2
 rw [List.isEmpty_iff,v8,List.all_eq_true]
 constructor
 ·intro h
  by_cases he:l.reverse.dropWhile p=[]
  ·intro x hx
   exact ((v8 p _).1 he) x (List.mem_reverse.2 hx)
  ·have h1:=List.head_dropWhile_not p he
   have h2:=h _ (List.mem_reverse.2 (List.head_mem he))
   rw [h1] at h2;cases h2
 ·intro h x hx
  have hx:=List.mem_reverse.1 hx
  exact h x (List.mem_reverse.1 ((List.dropWhile_sublist p).mem hx))
theorem G4 (s:ByteArray) :(s.extract 1 s.size).data.toList=s.data.toList.drop 1:=by
 rw [←Di]
 show ((s.data.toList.take s.size).drop 1)=_
 rw [List.take_of_length_le (by rw [Array.length_toList];exact Nat.le_refl _)]
theorem jx (s:ByteArray) :(bK s).data.toList=if je s then s.data.toList.drop 1 else s.data.toList:=by
 unfold bK
 split
 ·exact G4 s
 ·rfl
theorem xe (s:ByteArray):Lib.trimPrefix s.data.toList minusB.data.toList =(bK s).data.toList:=by
 rw [jx]
 unfold je Lib.trimPrefix Lib.hasPrefix minusB
 cases s.data.toList with
 | nil=>rfl
 | cons b t=>
  have:List.isPrefixOf [45] (b::t) =(b==45):=by
   show ((45:UInt8)==b&&List.isPrefixOf [] t)=_
   rw [BEq.comm]
   simp [List.isPrefixOf]
  show (if List.isPrefixOf [45] (b::t) then _ else _)=_
  rw [this]
  simp
theorem vw (s:ByteArray):s.size=s.data.toList.length:=by rw [Array.length_toList];rfl
theorem rQ (s:ByteArray):jS s =(!(bK s).data.toList.isEmpty&&!((bK s).data.toList.headD 0==48&&(je s||decide (((bK s).size:Int)>1)))&&(bK s).data.toList.all fw):=by
 unfold jS
 rw [xe,Lib.toList_data]
 have ht :(Lib.trimS (bK s).data.toList digsB.data.toList).isEmpty =(bK s).data.toList.all fw:=by
  unfold Lib.trimS Lib.trimLeftS Lib.trimRightS
  have :(fun x=>digsB.data.toList.contains x)=fw:=funext yz
  rw [this,BP]
 simp only [ht,vw]
 rw [jx]
 cases hn:je s with
 | true=>
  simp only [if_true,Bool.true_or,Bool.and_true]
  have :(s.data.toList==[48])=false:=by
   unfold je at hn
   cases hs:s.data.toList with
   | nil=>rfl
   | cons b t=>
    rw [hs] at hn
    have hb:b=45:=by simpa using hn
    subst hb
    simp
  rw [this]
  cases (s.data.toList.drop 1).isEmpty <;> simp
 | false=>
  simp only [Bool.false_or,Bool.false_eq_true,if_false]
  cases hs:s.data.toList with
  | nil=>rfl
  | cons b t=>
   cases t with
   | nil=>simp
   | cons c r=>
    have h1:decide (((b::c::r).length:Int)>1)=true:=decide_eq_true (by simp only [List.length_cons];omega)
    have h2 :(b::c::r==[(48:UInt8)])=false:=by simp
    rw [h1,h2]
    simp
theorem qH :∀ (l:List UInt8) (n:Int) (b:Bool),l.all fw=false→nq l n b=none
 | [],_,_,h=>by cases h
 | c::r,n,b,h=>by
  rw [qG]
  by_cases hc:fw c=true
  ·have h':r.all fw=false:=by
    rw [List.all_cons,hc] at h;exact h
   unfold fw at hc
   rw [if_neg (by simp at hc ⊢;omega)]
   exact qH r _ _ h'
  ·unfold fw at hc
   rw [if_pos (by simp at hc ⊢;omega)]
def F0 (n:Int) (b:Bool) (a:Nat):Prop:=(b=false∧n=a∧a≤11529215046068469769)∨(b=true∧a>9223372036854775808)
theorem qI :∀ (l:List UInt8) (n:Int) (b:Bool) (a:Nat),l.all fw=true→F0 n b a→∃ n' b',nq l n b=some (n',b')∧F0 n' b' (jv l a)
 | [],n,b,a,_,h=>⟨n,b,rfl,h⟩
 | c::r,n,b,a,h,hi=>by
  rw [List.all_cons,Bool.and_eq_true] at h
  have hc:=h.1
  unfold fw at hc
  simp only [Bool.and_eq_true,decide_eq_true_eq] at hc
  rw [qG,if_neg (by simp;omega)]
  refine qI r _ _ (a*10 +(c.toNat - 48)) h.2 ?_
  rcases hi with ⟨rfl,rfl,h3⟩ |⟨rfl,h3⟩
  ·by_cases hb:a>1152921504606846976
   ·refine .inr ⟨by simp;omega,by omega⟩
   ·refine .inl ⟨by simp;omega,?_,by omega⟩
    unfold A0
    have e1:IntKind.u8.wrap ((c.toNat:Int) - 48) =(c.toNat:Int) - 48:=by
     simp only [IntKind.wrap,IntKind.bits,IntKind.signed]
     simp
     omega
    have e2:IntKind.u64.wrap ((a:Int)*10) =(a:Int)*10:=ri (by omega) (by omega)
    have e3:IntKind.u64.wrap ((c.toNat:Int) - 48) =(c.toNat:Int) - 48:=ri (by omega) (by omega)
    rw [e1,e2,e3,ri (by omega) (by omega)]
    omega
  ·exact .inr ⟨by simp,by omega⟩
theorem vE :∀ (l:List UInt8) (a:Nat),l.all fw=true→a≤18446744073709551615→
  (Lib.parseUintM 18446744073709551615 a l = .ok (jv l a)∧jv l a≤18446744073709551615)∨(Lib.parseUintM 18446744073709551615 a l = .range∧jv l a>18446744073709551615)
 | [],a,_,h=> .inl ⟨rfl,h⟩
 | c::r,a,h,ha=>by
  rw [List.all_cons,Bool.and_eq_true] at h
  have hc:=h.1
  unfold fw at hc
  simp only [Bool.and_eq_true,decide_eq_true_eq] at hc
  unfold Lib.parseUintM
  rw [if_pos hc]
  have hv:=ye r (a*10 +(c.toNat - 48))
  split
  ·exact .inr ⟨rfl,by unfold jv;omega⟩
  ·split
   ·exact .inr ⟨rfl,by unfold jv;omega⟩
   ·exact vE r _ h.2 (by omega)
theorem CO {s:ByteArray} {lo hi:Int} (h:jS s=false):cQ s lo hi =(0,4):=by
 rw [rQ] at h
 unfold cQ
 simp only []
 split
 ·rfl
 ·rename_i h1
  have h1 :((bK s).data.toList.isEmpty ||((bK s).data.toList.headD 0==48&&(je s||decide (((bK s).size:Int)>1))))=false:=by simpa using h1
  rw [Bool.or_eq_false_iff] at h1
  rw [h1.1,h1.2] at h
  rw [qH _ _ _ (by simpa using h)]
  rfl
theorem A1 {s:ByteArray} {lo hi:Int} (h:jS s=true) :(bK s).data.toList≠ []∧(bK s).data.toList.all fw=true∧cQ s lo hi=Ae (je s) lo hi (nq (bK s).data.toList 0 false):=by
 rw [rQ,Bool.and_eq_true,Bool.and_eq_true] at h
 obtain ⟨⟨h1,h2⟩,h3⟩:=h
 refine ⟨fun e=>(by rw [e] at h1;cases h1),h3,?_⟩
 unfold cQ
 simp only []
 rw [if_neg]
 have h1 :(bK s).data.toList.isEmpty=false:=by simpa using h1
 rw [Bool.not_eq_true'] at h2
 rw [h1,h2]
 decide
theorem qS {s:ByteArray} (h1 :(bK s).data.toList≠ []) (h2 :(bK s).data.toList.all fw=true) :
  Lib.parseIntB 64 s.data.toList =(if (if je s then jv (bK s).data.toList 0>9223372036854775808 else jv (bK s).data.toList 0≥9223372036854775808) then .range else .ok (if je s then -(jv (bK s).data.toList 0:Int) else jv (bK s).data.toList 0)):=by
 have hl:=jx s
 generalize (bK s).data.toList=d at *
 unfold je at *
 generalize s.data.toList=l at *
 cases l with
 | nil=>exact absurd hl h1
 | cons c r=>
  have hv:=vE d 0 h2 (by decide)
  have hd:Lib.parseUintB 64 (if c.toNat=43∨c.toNat=45 then r else c::r)=Lib.parseUintM 18446744073709551615 0 d:=by
   have :(if c.toNat=43∨c.toNat=45 then r else c::r)=d:=by
    rw [hl]
    by_cases h:c=45
    ·subst h;rfl
    ·have hb :(c==45)=false:=by simpa using h
     have hn :(!(c::r).isEmpty&&(c::r).headD 0==45)=false:=by simpa using hb
     rw [hn] at hl ⊢
     simp only [if_false,Bool.false_eq_true] at hl ⊢
     rw [if_neg]
     rw [hl,List.all_cons,Bool.and_eq_true] at h2
     have:=h2.1
     unfold fw at this
     simp only [Bool.and_eq_true,decide_eq_true_eq] at this
     omega
   rw [this]
   unfold Lib.parseUintB
   rw [if_neg h1]
  unfold Lib.parseIntB
  simp only []
  rw [hd]
  have hneg :(c.toNat=45)↔(!(c::r).isEmpty&&(c::r).headD 0==45)=true:=by
   simp only [List.isEmpty_cons,Bool.not_false,Bool.true_and,List.headD_cons,beq_iff_eq]
   rw [←UInt8.toNat_inj]
   exact Iff.rfl
  cases hb :(!(c::r).isEmpty&&(c::r).headD 0==45) with
  | true=>
   have hc:c.toNat=45:=hneg.2 hb
   rcases hv with ⟨e,hle⟩ |⟨e,hgt⟩
   ·rw [e]
    simp only [hc,not_true,false_and,if_false,true_and,if_true]
   ·rw [e]
    simp only [if_true]
    rw [if_pos (by omega)]
  | false=>
   have hc :¬ c.toNat=45:=fun h=>by rw [hneg.1 h] at hb;cases hb
   rcases hv with ⟨e,hle⟩ |⟨e,hgt⟩
   ·rw [e]
    simp only [hc,not_false_iff,true_and,false_and,if_false,Bool.false_eq_true]
   ·rw [e]
    simp only [Bool.false_eq_true,if_false]
    rw [if_pos (by omega)]
theorem bX (s:ByteArray) (lo hi:Int):cQ s lo hi=gz s lo hi:=by
 unfold gz
 cases hb:jS s with
 | false=>exact CO hb
 | true=>
  obtain ⟨h1,h2,h3⟩:=A1 (lo:=lo) (hi:=hi) hb
  rw [h3,qS h1 h2]
  obtain ⟨n,b,hn,hi'⟩:=qI (bK s).data.toList 0 false 0 h2 (.inl ⟨rfl,rfl,by omega⟩)
  rw [hn]
  generalize jv (bK s).data.toList 0=V at *
  unfold Ae
  simp only [if_true]
  rcases hi' with ⟨rfl,rfl,hV⟩ |⟨rfl,hV⟩
  ·cases je s with
   | true=>
    by_cases hg:V>9223372036854775808
    ·rw [if_pos (by simp;omega)]
     simp [hg]
    ·rw [if_neg (by simp;omega)]
     simp only [if_true,hg,if_false]
     have e1:IntKind.i64.wrap (0 - IntKind.i64.wrap (V:Int)) = -(V:Int):=by
      by_cases h63:V=9223372036854775808
      ·subst h63;decide
      ·rw [iu (n:=(V:Int)) (by omega) (by omega),iu (by omega) (by omega)];omega
     rw [e1]
     by_cases hr:-(V:Int)<lo∨hi < -(V:Int)
     ·rw [if_pos (by simpa using hr),if_pos hr]
     ·rw [if_neg (by simpa using hr),if_neg hr]
   | false=>
    by_cases hg:V≥9223372036854775808
    ·rw [if_pos (by simp;omega)]
     simp [hg]
    ·rw [if_neg (by simp;omega)]
     simp only [Bool.false_eq_true,if_false,hg]
     have e1:IntKind.i64.wrap (V:Int) =(V:Int):=iu (by omega) (by omega)
     rw [e1]
     by_cases hr :(V:Int)<lo∨hi <(V:Int)
     ·rw [if_pos (by simpa using hr),if_pos hr]
     ·rw [if_neg (by simpa using hr),if_neg hr]
  ·rw [if_pos (by simp)]
   cases je s
   ·simp only [Bool.false_eq_true,if_false]
    rw [if_pos (by omega)]
   ·simp only [if_true]
    rw [if_pos (by omega)]
end Go.Proofs.YthaeofeigglbhaaGreatDoor
namespace Go.Proofs.YthaeofeigglbhaaGreatDoor
open Go Go.Mir
attribute [local irreducible] Go.Mir.DT.sat Go.Mir.evPat Go.Mir.RT.sat Go.Mir.evFn
theorem qe {n:Int} (h0:0≤n) (h1:n≤1000000) :(bJ n).size≤21:=by
 show (Lib.itoa n).toArray.size≤21
 rw [List.size_toArray]
 exact Lib.itoa_length_le n (by omega) (by omega)
end Go.Proofs.YthaeofeigglbhaaGreatDoor
namespace Go.Mir
open Go.RowKit
variable {P:Program}
end Go.Mir
namespace Go.Proofs.YthaeofeigglbhaaGreatDoor
open Go Go.Mir
attribute [local irreducible] Go.Mir.DT.sat Go.Mir.evPat Go.Mir.RT.sat Go.Mir.evFn
def bQ (b:ByteArray):Int×Int:=gz b 0 1000000
end Go.Proofs.YthaeofeigglbhaaGreatDoor
namespace Go.Proofs.YthaeofeigglbhaaGreatDoor
open Go Go.Mir
attribute [local irreducible] Go.Mir.DT.sat Go.Mir.evPat Go.Mir.RT.sat Go.Mir.evFn
end Go.Proofs.YthaeofeigglbhaaGreatDoor
namespace Go.Proofs.YthaeofeigglbhaaGreatDoor
open Go Go.Mir
attribute [local irreducible] Go.Mir.DT.sat Go.Mir.evPat Go.Mir.RT.sat Go.Mir.evFn
end Go.Proofs.YthaeofeigglbhaaGreatDoor
namespace Go.Proofs.YthaeofeigglbhaaGreatDoor
open Go Go.Mir
theorem vG (c:UInt8) :∀ (l:List UInt8) (a:Nat),jv (l++[c]) a=jv l a*10 +(c.toNat - 48)
 | [],a=>rfl
 | x::r,a=>vG c r _
theorem lh {d:Nat} (h:d<10) :(UInt8.ofNat (48+d)).toNat=48+d:=by
 rw [UInt8.toNat_ofNat']
 omega
theorem zM {n:Nat} (h :¬ n<10):Lib.decDigits n=Lib.decDigits (n / 10)++[UInt8.ofNat (48+n % 10)]:=by
 conv=>lhs;rw [Lib.decDigits]
 rw [dif_neg h]
theorem Ch {n:Nat} (h:n<10):Lib.decDigits n=[UInt8.ofNat (48+n)]:=by
 rw [Lib.decDigits,dif_pos h]
theorem nE :∀ (k n:Nat),n<k→jv (Lib.decDigits n) 0=n∧(Lib.decDigits n).all fw=true∧Lib.decDigits n≠ []∧((Lib.decDigits n).headD 0=48→(Lib.decDigits n).length=1)
 | 0,n,h=>absurd h (Nat.not_lt_zero _)
 | k+1,n,h=>by
  by_cases h10:n<10
  ·rw [Ch h10]
   refine ⟨?_,?_,by simp,fun _=>rfl⟩
   ·show 0*10 +((UInt8.ofNat (48+n)).toNat - 48)=n
    rw [lh h10];omega
   ·simp [fw,lh h10];omega
  ·obtain ⟨i1,i2,i3,i4⟩:=nE k (n / 10) (by omega)
   have hm:n % 10<10:=by omega
   rw [zM h10]
   refine ⟨?_,?_,by simp,fun hh=>?_⟩
   ·rw [vG,i1,lh hm];omega
   ·rw [List.all_append,i2]
    simp [fw,lh hm];omega
   ·exfalso
    cases hd:Lib.decDigits (n / 10) with
    | nil=>exact i3 hd
    | cons x t=>
     rw [hd] at hh i4 i1
     have hx:x=48:=hh
     have hl:=i4 hx
     cases t with
     | cons=>simp at hl
     | nil=>
      subst hx
      have :(0:Nat)=n / 10:=i1
      omega
theorem Cz {b:UInt8} (h:fw b=true):b≠45∧b≠32:=by
 constructor <;>(rintro rfl;exact absurd h (by decide))
theorem l6 {n:Int} (h0:0≤n) :(bJ n).data.toList=Lib.decDigits n.toNat:=by
 show (Lib.itoa n).toArray.toList=_
 unfold Lib.itoa
 rw [if_neg (by omega)]
theorem AZ {n:Int} (h0:0≤n):je (bJ n)=false:=by
 unfold je
 rw [l6 h0]
 obtain ⟨_,h2,h3,_⟩:=nE _ n.toNat (Nat.lt_succ_self _)
 cases hd:Lib.decDigits n.toNat with
 | nil=>exact absurd hd h3
 | cons x t=>
  rw [hd,List.all_cons,Bool.and_eq_true] at h2
  simpa using (Cz h2.1).1
theorem CP {n:Int} (h0:0≤n) (h1:n≤1000000):bQ (bJ n) =(n,0):=by
 obtain ⟨v1,v2,v3,v4⟩:=nE _ n.toNat (Nat.lt_succ_self _)
 have hn:=AZ h0
 have hl :(bK (bJ n)).data.toList=Lib.decDigits n.toNat:=by
  rw [jx,hn,if_neg (by decide),l6 h0]
 have hb:jS (bJ n)=true:=by
  rw [rQ,hl,hn,v2,vw,hl,Bool.false_or]
  have h1 :(Lib.decDigits n.toNat).isEmpty=false:=by simpa using v3
  rw [h1]
  cases h48 :((Lib.decDigits n.toNat).headD 0==48)
  ·rfl
  ·rw [v4 (eq_of_beq h48)];rfl
 unfold bQ gz
 rw [if_pos hb,qS (by rw [hl];exact v3) (by rw [hl];exact v2),hl,hn,v1]
 simp only [Bool.false_eq_true,if_false]
 rw [if_neg (by omega)]
 simp only []
 rw [if_neg (by omega)]
 have :((n.toNat:Nat):Int)=n:=by omega
 rw [this]
end Go.Proofs.YthaeofeigglbhaaGreatDoor
namespace Go.Proofs.YthaeofeigglbhaaGreatDoor
open Go Go.Mir
def sepD:ByteArray:=⟨#[44,32]⟩
theorem A2 {a r:List UInt8} {c:UInt8} {t:List UInt8} (ha:c∉a) {j:Nat} (hj:j<a.length):Lib.occAt (a++r) (c::t) j=false:=by
 unfold Lib.occAt
 rw [List.drop_append_of_le_length (by omega)]
 have :(c==a[j])=false:=by
  apply beq_eq_false_iff_ne.2
  rintro rfl
  exact ha (List.getElem_mem hj)
 rw [List.drop_eq_getElem_cons hj]
 show (c==a[j]&&_)=false
 rw [this]
 rfl
theorem uk {a b:List UInt8} {c:UInt8} {t:List UInt8} (ha:c∉a):Lib.index (a ++((c::t)++b)) (c::t)=a.length:=by
 refine Lib.index_first (by simp) ?_ fun j hj=>A2 ha hj
 unfold Lib.occAt
 rw [List.drop_left]
 exact List.isPrefixOf_iff_prefix.2 (List.prefix_append _ _)
theorem yN {a:List UInt8} {c:UInt8} {t:List UInt8} (ha:c∉a):Lib.index a (c::t) = -1:=by
 refine Lib.index_none fun j hj=>?_
 rcases Nat.lt_or_ge j a.length with h|h
 ·have:=A2 (r:= []) (t:=t) ha h
  rwa [List.append_nil] at this
 ·unfold Lib.occAt
  rw [List.drop_eq_nil_of_le h]
  rfl
theorem vX {a b:List UInt8} {c:UInt8} {t:List UInt8} (ha:c∉a):Lib.cut (a ++((c::t)++b)) (c::t) =(a,b,true):=by
 unfold Lib.cut
 rw [uk ha,if_pos (by omega)]
 simp only [Int.toNat_natCast]
 rw [List.take_left]
 have :(a ++((c::t)++b)).drop (a.length +(c::t).length)=b:=by
  rw [←List.drop_drop,List.drop_left,List.drop_left]
 rw [this]
def dl (n:Int):List UInt8:=(bJ n).data.toList
theorem FS (n:Int):toB (dl n)=bJ n:=nJ rfl
def inF (n:Int):Prop:=0≤n∧n≤1000000
def yV (x:Mir.Fall):Prop:=inF x.Wicket∧inF x.Runs∧inF x.Player
theorem Gd {n:Int} (h:inF n) :∀ b∈dl n,fw b=true:=by
 have h2:=(nE _ n.toNat (Nat.lt_succ_self _)).2.1
 rw [List.all_eq_true] at h2
 unfold dl
 rw [l6 h.1]
 exact h2
theorem qh {n:Int} (h:inF n) {c:UInt8} (hc:fw c=false):c∉dl n:=fun hm=>by rw [Gd h c hm] at hc;cases hc
theorem wF {n:Int} (h:inF n):bQ (toB (dl n)) =(n,0):=by rw [FS];exact CP h.1 h.2
def aJ (x:Mir.Fall):List UInt8:=dl x.Wicket ++(45 ::(dl x.Runs ++(32::40 ::(dl x.Player++[41]))))
def cB (x:Mir.Fall):Mir.Fall:={ x with Balls:=0 }
def c1A (l:List UInt8):=Lib.cut l [45]
def c2A (l:List UInt8):=Lib.cut (c1A l).2.1 [32,40]
def c3A (l:List UInt8):=Lib.cut (c2A l).2.1 [41]
def dI (l:List UInt8):Mir.Fall×Bool:=
 (⟨(bQ (toB (c1A l).1)).1,(bQ (toB (c2A l).1)).1,(bQ (toB (c3A l).1)).1,0⟩,
  (c1A l).2.2&&((c2A l).2.2&&((c3A l).2.2&&((c3A l).2.1.isEmpty&&((bQ (toB (c1A l).1)).2==0&&((bQ (toB (c2A l).1)).2==0&&(bQ (toB (c3A l).1)).2==0))))))
theorem z8 {x:Mir.Fall} (h:yV x):dI (aJ x) =(cB x,true):=by
 obtain ⟨h1,h2,h3⟩:=h
 have e1:c1A (aJ x) =(dl x.Wicket,dl x.Runs ++(32::40 ::(dl x.Player++[41])),true):=vX (c:=45) (t:= []) (qh h1 (by decide))
 have e2:c2A (aJ x) =(dl x.Runs,dl x.Player++[41],true):=by
  unfold c2A
  rw [e1]
  exact vX (c:=32) (t:= [40]) (qh h2 (by decide))
 have e3:c3A (aJ x) =(dl x.Player,[],true):=by
  unfold c3A
  rw [e2]
  exact vX (c:=41) (t:= []) (b:= []) (qh h3 (by decide))
 unfold dI
 rw [e1,e2,e3]
 simp only [wF h1,wF h2,wF h3]
 rfl
def bR:List Mir.Fall→List UInt8
 | []=> []
 | x::r=>44::32 ::(aJ x++bR r)
def gb:List Mir.Fall→List UInt8
 | []=> []
 | x::r=>aJ x++bR r
def uT (l:List Mir.Fall):Prop:=∀ x∈l,yV x
theorem Aa (x:Mir.Fall):aJ x≠ []:=by unfold aJ;simp
def Ee (l:List Mir.Fall):Prop:=∀ x∈l,x.Balls=0
def lM (l:List UInt8):List (List UInt8):=Lib.splitK [44,32] 0 (Lib.count l [44,32]) l
theorem tW {x:Mir.Fall} (h:yV x) :(44:UInt8)∉aJ x:=by
 obtain ⟨h1,h2,h3⟩:=h
 unfold aJ
 simp only [List.mem_append,List.mem_cons,List.not_mem_nil,or_false,not_or]
 exact ⟨qh h1 (by decide),by decide,qh h2 (by decide),by decide,by decide,qh h3 (by decide),by decide⟩
theorem nO :∀ (r:List Mir.Fall) (x:Mir.Fall),uT (x::r)→Lib.count (aJ x++bR r) [44,32]=r.length∧∀ k,r.length≤k→Lib.splitK [44,32] 0 k (aJ x++bR r) =(x::r).map aJ
 | [],x,h=>by
  have hn:=tW (h x List.mem_cons_self)
  have e:Lib.index (aJ x++bR []) [44,32] = -1:=by
   rw [show aJ x++bR []=aJ x from List.append_nil _]
   exact yN hn
  refine ⟨Lib.count_miss e,fun k _=>?_⟩
  cases k with
  | zero=>simp [Lib.splitK,bR]
  | succ k=>unfold Lib.splitK;rw [if_pos (beq_iff_eq.2 e)];simp [bR]
 | y::r,x,h=>by
  have hn:=tW (h x List.mem_cons_self)
  have e0:aJ x++bR (y::r)=aJ x ++((44::[32]) ++(aJ y++bR r)):=rfl
  have e:Lib.index (aJ x++bR (y::r)) [44,32] =(aJ x).length:=uk (t:= [32]) (b:=aJ y++bR r) hn
  have ed :(aJ x++bR (y::r)).drop ((aJ x).length +([44,32]:List UInt8).length)=aJ y++bR r:=by
   rw [e0,←List.drop_drop,List.drop_left]
   rfl
  obtain ⟨i1,i2⟩:=nO r y (fun z hz=>h z (List.mem_cons_of_mem _ hz))
  refine ⟨?_,fun k hk=>?_⟩
  ·rw [Lib.count_hit (by simp) e,ed,i1]
   simp [Nat.add_comm]
  ·cases k with
   | zero=>simp at hk
   | succ k=>
    unfold Lib.splitK
    rw [if_neg (by rw [e];simp),e]
    simp only [Int.toNat_natCast,Nat.add_zero]
    rw [ed,i2 k (by simpa using hk),List.take_left]
    rfl
theorem u7 {x:Mir.Fall} {r:List Mir.Fall} (h:uT (x::r)):lM (gb (x::r)) =(x::r).map aJ:=by
 obtain ⟨h1,h2⟩:=nO r x h
 show Lib.splitK [44,32] 0 (Lib.count (aJ x++bR r) [44,32]) (aJ x++bR r)=_
 rw [h1]
 exact h2 _ (Nat.le_refl _)
def prA:List (List UInt8)→List Mir.Fall→Option (List Mir.Fall)
 | [],out=>some out
 | p::r,out=>if (dI p).2 then prA r (out++[(dI p).1]) else none
theorem Bf :∀ (xs out:List Mir.Fall),uT xs→prA (xs.map aJ) out=some (out++xs.map cB)
 | [],out,_=>by simp [prA]
 | x::r,out,h=>by
  show (if (dI (aJ x)).2=true then _ else _)=_
  rw [z8 (h x List.mem_cons_self)]
  simp only [if_true]
  rw [Bf r _ fun y hy=>h y (List.mem_cons_of_mem _ hy)]
  simp
def dT (l:List UInt8):Option (List Mir.Fall):=if l.isEmpty then some [] else prA (lM l) []
theorem u5 {xs:List Mir.Fall} (h:uT xs):dT (gb xs)=some (xs.map cB):=by
 cases xs with
 | nil=>rfl
 | cons x r=>
  unfold dT
  rw [if_neg (by simp [gb,Aa]),u7 h,Bf _ _ h]
  rfl
end Go.Proofs.YthaeofeigglbhaaGreatDoor
namespace Go.Proofs.YthaeofeigglbhaaGreatDoor
open Go Go.Mir
attribute [local irreducible] Go.Mir.DT.sat Go.Mir.evPat Go.Mir.RT.sat Go.Mir.evFn
abbrev Fls:Ty:= .slice (.nm .Fall)
abbrev qFl:Pat:=kr [Fls]
abbrev vg:Pat:=kr [.str,I]
def jR (n:Int):Bool:=decide (n<0)||decide (n>1000000)
def jQ (x:Mir.Fall):Bool:=jR x.Wicket ||(jR x.Runs||jR x.Player)
def cF (x:Mir.Fall):ByteArray:=((((bJ x.Wicket++ByteArray.mk #[45])++bJ x.Runs)++ByteArray.mk #[32,40])++bJ x.Player)++ByteArray.mk #[41]
abbrev OFt:Type:=Sum (ByteArray×Int×Unit) (List ByteArray×Unit)
def txA:List Mir.Fall→List ByteArray→OFt
 | [],o=> .inr (o,())
 | x::r,o=>if jQ x then .inl (⟨#[]⟩,2,()) else txA r (o++[cF x])
abbrev Gn:List (Nat×PB):= [(0,.row 1 .str)]
abbrev qFt:Pat:=⟨[(4,.c (.osl 0 1)),(9,.h Fls),(10,.h I),(11,.h I)],Gn,2⟩
abbrev xFt:List (Lf×Pat):= [(.ret,⟨[(2,.h .str),(3,.h I)],[],0⟩),(.ext 0,⟨[(4,.c (.osl 0 1))],Gn,2⟩)]
abbrev TFt:Type:=List Mir.Fall×Int×Int×List ByteArray×Unit
def qp (x:TFt):Prop:=(x.2.1 =(x.1.length:Int)∧x.1.length≤1000)∧0≤x.2.2.1∧x.2.2.1≤x.2.1∧(x.2.2.2.1.length:Int)≤x.2.2.1
def AU (x:TFt):Nat:=(x.2.1 - x.2.2.1).toNat
def eS (x:TFt):OFt:=txA (x.1.drop x.2.2.1.toNat) x.2.2.2.1
def Dz:OFt→ByteArray×Int
 | .inl p=>(p.1,p.2.1)
 | .inr p=>(iB p.1 sepD,0)
def gd (l:List Mir.Fall):ByteArray×Int:=Dz (txA l [])
def tY (l:List Mir.Fall):Prop:=l.length≤1000
def s9:Den (tyP qFl)→List Prop×Den (tyP vg):=fun x=>([tY x.1],((gd x.1).1,(gd x.1).2,()))
abbrev ORt:Type:=Sum (ByteArray×Int×Unit) (ByteArray×Unit)
def nr (i:Int) (s:ByteArray):ByteArray:=if decide (i>0) then s++ByteArray.mk #[44,32] else s
def txR:List Mir.Fall→Int→ByteArray→ORt
 | [],_,s=> .inr (s,())
 | x::r,i,s=>if jQ x then .inl (⟨#[]⟩,2,()) else txR r (i+1) (nr i s++cF x)
abbrev qRt:Pat:=⟨[(4,.h .str),(9,.h Fls),(10,.h I),(11,.h I)],[],0⟩
abbrev xRt:List (Lf×Pat):= [(.ret,⟨[(2,.h .str),(3,.h I)],[],0⟩),(.ext 0,⟨[(4,.h .str)],[],0⟩)]
abbrev TRt:Type:=ByteArray×List Mir.Fall×Int×Int×Unit
def qu (x:TRt):Prop:=(x.2.2.1 =(x.2.1.length:Int)∧x.2.1.length≤1000)∧0≤x.2.2.2.1∧x.2.2.2.1≤x.2.2.1∧(x.1.size:Int)≤100*x.2.2.2.1
def AX (x:TRt):Nat:=(x.2.2.1 - x.2.2.2.1).toNat
def eK (x:TRt):ORt:=txR (x.2.1.drop x.2.2.2.1.toNat) x.2.2.2.1 x.1
def DA:ORt→ByteArray×Int
 | .inl p=>(p.1,p.2.1)
 | .inr p=>(p.1,0)
def gg (l:List Mir.Fall):ByteArray×Int:=DA (txR l 0 ⟨#[]⟩)
def ta:Den (tyP qFl)→List Prop×Den (tyP vg):=fun x=>([tY x.1],((gg x.1).1,(gg x.1).2,()))
theorem zP (xs:List Mir.Fall) {i:Int} (h0:0≤i) (h1:i<xs.length):xs.drop i.toNat=xs.getD i.toNat (dflt (Ty.nm Nm.Fall))::xs.drop (i+1).toNat:=by
 have hn:i.toNat<xs.length:=by omega
 have e1 :(i+1).toNat=i.toNat+1:=by omega
 show _=List.getD xs i.toNat Mir.Fall.zero::_
 rw [List.drop_eq_getElem_cons hn,e1,List.getD_eq_getElem?_getD,List.getElem?_eq_getElem hn]
 rfl
theorem la {n:Int} (h:jR n=false):0≤n∧n≤1000000:=by
 simp only [jR,Bool.or_eq_false_iff,decide_eq_false_iff_not] at h
 omega
theorem ry {n:Int}:jR n=false↔inF n:=by
 simp only [jR,Bool.or_eq_false_iff,decide_eq_false_iff_not,inF]
 omega
theorem jw (n:Int) :(bif decide (n<0) then true else decide (n>1000000))=jR n:=by
 unfold jR;cases decide (n<0) <;> rfl
theorem l7 {n:Int} (h:jR n=false) :(bJ n).size≤21:=qe (la h).1 (la h).2
noncomputable def lpFt:Lp:=(⟨0,dF [jF] Tryz.f33,(find [(rid (mv Tryz.f33 0 0),mH 4 (dF [jF] Tryz.f33) (fun _=>none) (mv Tryz.f33 0 0))]),(cG Tryz.f33 0),qFt,xFt⟩:Lp)
theorem FJ (xs:List Mir.Fall) (n:Int) (i:Int) (o:List ByteArray) (hi:qp (xs,n,i,o,())) :(Go.Mir.stepG lpFt eS (fun y:Den (tyP lpFt.q)=>qp y∧AU y<AU (xs,n,i,o,())) (xs,n,i,o,())∧Go.Mir.stepE lpFt eS (xs,n,i,o,())=eS (xs,n,i,o,())):=by
 refine cast (by kernel_rfl) (?_:let r1:Int:=IntKind.i64.wrap ((0:Int) +(1:Int));let r2:ByteArray:=ByteArray.mk #[32,40];let r3:ByteArray:=bJ (xs.getD i.toNat (dflt (Ty.nm Nm.Fall))).1++ByteArray.mk #[45];let r4:Int:=IntKind.i64.wrap (r1 +(1:Int));let r5:List Int:= [(xs.getD i.toNat (dflt (Ty.nm Nm.Fall))).1,(xs.getD i.toNat (dflt (Ty.nm Nm.Fall))).2,(xs.getD i.toNat (dflt (Ty.nm Nm.Fall))).3];let r6:ByteArray:=r3++bJ (xs.getD i.toNat (dflt (Ty.nm Nm.Fall))).2;let r7:Int:=(↑r5.length:Int);let r8:Int:=r5.getD (Int.toNat (0:Int)) (dflt (Ty.int IntKind.i64));let r9:Int:=r5.getD r1.toNat (dflt (Ty.int IntKind.i64));let r10:ByteArray:=r6++r2;let r11:Int:=r5.getD r4.toNat (dflt (Ty.int IntKind.i64));let r12:ByteArray:=r10++bJ (xs.getD i.toNat (dflt (Ty.nm Nm.Fall))).3;let r13:List ByteArray:= [r12++ByteArray.mk #[41]];let r14:Bool:=bif decide (r8 <(0:Int)) then true else decide (r8 >(1000000:Int));let r15:Bool:=bif decide (r9 <(0:Int)) then true else decide (r9 >(1000000:Int));let r16:Bool:=bif decide (r11 <(0:Int)) then true else decide (r11 >(1000000:Int));((decide (i<n)=true→((0:Int)≤i∧i <(↑xs.length:Int))∧True∧((0:Int)≤(0:Int)∧(0:Int)<r7)∧(r14=true→True)∧(r14=false→((0:Int)≤r1∧r1<r7)∧(r15=true→True)∧(r15=false→((0:Int)≤r4∧r4<r7)∧(r16=true→True)∧(r16=false→(bJ (xs.getD i.toNat (dflt (Ty.nm Nm.Fall))).1).size +(ByteArray.mk #[45]).size≤ay∧r3.size +(bJ (xs.getD i.toNat (dflt (Ty.nm Nm.Fall))).2).size≤ay∧r6.size+r2.size≤ay∧r10.size +(bJ (xs.getD i.toNat (dflt (Ty.nm Nm.Fall))).3).size≤ay∧r12.size +(ByteArray.mk #[41]).size≤ay∧(o.length+r13.length) *(16:Nat)≤(70368744177664:Nat)∧qp (xs,n,IntKind.i64.wrap (i +(1:Int)),o++r13,())∧AU (xs,n,IntKind.i64.wrap (i +(1:Int)),o++r13,())<AU (xs,n,i,o,())))))∧(decide (i<n)=false→True))∧(bif decide (i<n) then bif r14 then Sum.inl (ByteArray.mk #[],(2:Int),()) else bif r15 then Sum.inl (ByteArray.mk #[],(2:Int),()) else bif r16 then Sum.inl (ByteArray.mk #[],(2:Int),()) else eS (xs,n,IntKind.i64.wrap (i +(1:Int)),o++r13,()) else Sum.inr (o,()))=eS (xs,n,i,o,()))
 intro r1 r2 r3 r4 r5 r6 r7 r8 r9 r10 r11 r12 r13 r14 r15 r16
 clear_value (hr1:r1=_) (hr2:r2=_) (hr3:r3=_) (hr4:r4=_) (hr5:r5=_) (hr6:r6=_) (hr7:r7=_) (hr8:r8=_) (hr9:r9=_) (hr10:r10=_) (hr11:r11=_) (hr12:r12=_) (hr13:r13=_) (hr14:r14=_) (hr15:r15=_) (hr16:r16=_)
 obtain ⟨⟨h1,h1b⟩,h2,h3,h4⟩:=hi
 have h1:n =(xs.length:Int):=h1
 have h1b:xs.length≤1000:=h1b
 have h2:0≤i:=h2
 have h3:i≤n:=h3
 have h4 :(o.length:Int)≤i:=h4
 have hL :(10000:Nat)≤ay:=by decide
 by_cases h:i<n
 ·have ew:IntKind.i64.wrap (i+1)=i+1:=iu (by omega) (by omega)
  have hd:=zP xs h2 (by omega)
  have e1:r1=1:=hr1.trans (by decide)
  have e4:r4=2:=by rw [hr4,e1];decide
  have e7:r7=3:=by rw [hr7,hr5];rfl
  have e14:r14=jR (xs.getD i.toNat (dflt (Ty.nm Nm.Fall))).Wicket:=by rw [hr14,hr8,hr5];exact jw _
  have e15:r15=jR (xs.getD i.toNat (dflt (Ty.nm Nm.Fall))).Runs:=by rw [hr15,hr9,hr5,e1];exact jw _
  have e16:r16=jR (xs.getD i.toNat (dflt (Ty.nm Nm.Fall))).Player:=by rw [hr16,hr11,hr5,e4];exact jw _
  have e13:r13=[cF (xs.getD i.toNat (dflt (Ty.nm Nm.Fall)))]:=by rw [hr13,hr12,hr10,hr6,hr3,hr2];rfl
  have z2:r2.size=2:=by rw [hr2];rfl
  have z45 :(ByteArray.mk #[45]).size=1:=rfl
  have z41 :(ByteArray.mk #[41]).size=1:=rfl
  have z3:r3.size =(bJ (xs.getD i.toNat (dflt (Ty.nm Nm.Fall))).Wicket).size+1:=by rw [hr3,ByteArray.size_append,z45]
  have z6:r6.size=r3.size +(bJ (xs.getD i.toNat (dflt (Ty.nm Nm.Fall))).Runs).size:=by rw [hr6,ByteArray.size_append]
  have z10:r10.size=r6.size+r2.size:=by rw [hr10,ByteArray.size_append]
  have z12:r12.size=r10.size +(bJ (xs.getD i.toNat (dflt (Ty.nm Nm.Fall))).Player).size:=by rw [hr12,ByteArray.size_append]
  clear hr1 hr2 hr3 hr4 hr5 hr6 hr7 hr8 hr9 hr10 hr11 hr12 hr13 hr14 hr15 hr16
  have key:eS (xs,n,i,o,())=if jQ (xs.getD i.toNat (dflt (Ty.nm Nm.Fall))) then .inl (⟨#[]⟩,2,()) else eS (xs,n,i+1,o++[cF (xs.getD i.toNat (dflt (Ty.nm Nm.Fall)))],()):=by
   unfold eS
   simp only []
   rw [hd]
   rfl
  rw [ew,key,decide_eq_true h,e13]
  generalize xs.getD i.toNat (dflt (Ty.nm Nm.Fall))=x at *
  refine ⟨⟨fun _=>⟨⟨h2,by omega⟩,trivial,⟨by omega,by omega⟩,fun _=>trivial,fun b1=>⟨⟨by omega,by omega⟩,fun _=>trivial,fun b2=>⟨⟨by omega,by omega⟩,fun _=>trivial,fun b3=>?_⟩⟩⟩,fun z=>Bool.noConfusion z⟩,?_⟩
  ·have y1:=l7 (e14▸b1)
   have y2:=l7 (e15▸b2)
   have y3:=l7 (e16▸b3)
   refine ⟨by omega,by omega,by omega,by omega,by omega,by simp only [List.length_cons,List.length_nil];omega,⟨⟨h1,h1b⟩,?_,?_,?_⟩,?_⟩
   ·show 0≤i+1;omega
   ·show i+1≤n;omega
   ·show ((o++[cF x]).length:Int)≤i+1
    rw [List.length_append];simp only [List.length_cons,List.length_nil];omega
   ·show (n - (i+1)).toNat <(n - i).toNat;omega
  ·unfold jQ
   rw [←e14,←e15,←e16]
   cases r14 <;> cases r15 <;> cases r16 <;> rfl
 ·rw [decide_eq_false h]
  refine ⟨⟨fun z=>Bool.noConfusion z,fun _=>trivial⟩,?_⟩
  unfold eS
  simp only [cond_false]
  rw [List.drop_eq_nil_of_le (by omega)]
  rfl
noncomputable def D3:LoopSum:=bF lpFt eS qp
noncomputable def DQ:Nat:=rid (cG Tryz.f33 0)
theorem E8:LoopOKp Tryz.prog 0 Tryz.f33.ntmps (cG Tryz.f33 0) (bF lpFt eS qp):=
 dJ lpFt (ch (.consU kP rfl .nil) _) mixed (LoopsOKp.cons (by kernel_rfl) (rb 4 (ch (.consU kP rfl .nil) _) mixed (Λ:=fun _=>none) (b:=mv Tryz.f33 0 0) rfl (fun _ _ _ h=>by cases h)) .nil) eS qp AU (fun |⟨xs,n,i,o,⟨⟩⟩,hi=>FJ xs n i o hi)
noncomputable def lpRt:Lp:=(⟨0,dF [gU] Tryz.f34,(find [(rid (mv Tryz.f34 0 0),mH 4 (dF [gU] Tryz.f34) (fun _=>none) (mv Tryz.f34 0 0))]),(cG Tryz.f34 0),qRt,xRt⟩:Lp)
theorem FO (s:ByteArray) (xs:List Mir.Fall) (n:Int) (i:Int) (hi:qu (s,xs,n,i,())) :(Go.Mir.stepG lpRt eK (fun y:Den (tyP lpRt.q)=>qu y∧AX y<AX (s,xs,n,i,())) (s,xs,n,i,())∧Go.Mir.stepE lpRt eK (s,xs,n,i,())=eK (s,xs,n,i,())):=by
 refine cast (by kernel_rfl) (?_:let r1:Bool:=decide (i >(0:Int));let r2:Int:=IntKind.i64.wrap ((0:Int) +(1:Int));let r3:ByteArray:=ByteArray.mk #[44,32];let r4:ByteArray:=ByteArray.mk #[32,40];let r5:ByteArray:=bJ (xs.getD i.toNat (dflt (Ty.nm Nm.Fall))).1++ByteArray.mk #[45];let r6:Int:=IntKind.i64.wrap (r2 +(1:Int));let r7:ByteArray:=bif r1 then s++r3 else s;let r8:List Int:= [(xs.getD i.toNat (dflt (Ty.nm Nm.Fall))).1,(xs.getD i.toNat (dflt (Ty.nm Nm.Fall))).2,(xs.getD i.toNat (dflt (Ty.nm Nm.Fall))).3];let r9:ByteArray:=r5++bJ (xs.getD i.toNat (dflt (Ty.nm Nm.Fall))).2;let r10:Int:=(↑r8.length:Int);let r11:Int:=r8.getD (Int.toNat (0:Int)) (dflt (Ty.int IntKind.i64));let r12:Int:=r8.getD r2.toNat (dflt (Ty.int IntKind.i64));let r13:ByteArray:=r9++r4;let r14:Int:=r8.getD r6.toNat (dflt (Ty.int IntKind.i64));let r15:ByteArray:=r13++bJ (xs.getD i.toNat (dflt (Ty.nm Nm.Fall))).3;let r16:ByteArray:=r15++ByteArray.mk #[41];let r17:Bool:=bif decide (r11 <(0:Int)) then true else decide (r11 >(1000000:Int));let r18:Bool:=bif decide (r12 <(0:Int)) then true else decide (r12 >(1000000:Int));let r19:Bool:=bif decide (r14 <(0:Int)) then true else decide (r14 >(1000000:Int));((decide (i<n)=true→((0:Int)≤i∧i <(↑xs.length:Int))∧True∧((0:Int)≤(0:Int)∧(0:Int)<r10)∧(r17=true→True)∧(r17=false→((0:Int)≤r2∧r2<r10)∧(r18=true→True)∧(r18=false→((0:Int)≤r6∧r6<r10)∧(r19=true→True)∧(r19=false→((r1=true→s.size+r3.size≤ay∧True)∧(r1=false→True))∧(true=true→uM (xs.getD i.toNat (dflt (Ty.nm Nm.Fall))).1∧(bJ (xs.getD i.toNat (dflt (Ty.nm Nm.Fall))).1).size +(ByteArray.mk #[45]).size≤ay∧uM (xs.getD i.toNat (dflt (Ty.nm Nm.Fall))).2∧r5.size +(bJ (xs.getD i.toNat (dflt (Ty.nm Nm.Fall))).2).size≤ay∧r9.size+r4.size≤ay∧uM (xs.getD i.toNat (dflt (Ty.nm Nm.Fall))).3∧r13.size +(bJ (xs.getD i.toNat (dflt (Ty.nm Nm.Fall))).3).size≤ay∧r15.size +(ByteArray.mk #[41]).size≤ay∧r7.size+r16.size≤ay∧qu (r7++r16,xs,n,IntKind.i64.wrap (i +(1:Int)),())∧AX (r7++r16,xs,n,IntKind.i64.wrap (i +(1:Int)),())<AX (s,xs,n,i,()))))))∧(decide (i<n)=false→True))∧(bif decide (i<n) then bif r17 then Sum.inl (ByteArray.mk #[],(2:Int),()) else bif r18 then Sum.inl (ByteArray.mk #[],(2:Int),()) else bif r19 then Sum.inl (ByteArray.mk #[],(2:Int),()) else bif true&&true then eK (r7++r16,xs,n,IntKind.i64.wrap (i +(1:Int)),()) else bif true then eK (r7++r16,xs,n,IntKind.i64.wrap (i +(1:Int)),()) else bif r1 then Sum.inl (dflt (Ty.str.prod (I.prod Ty.unit))) else Sum.inl (dflt (Ty.str.prod (I.prod Ty.unit))) else Sum.inr (s,()))=eK (s,xs,n,i,()))
 intro r1 r2 r3 r4 r5 r6 r7 r8 r9 r10 r11 r12 r13 r14 r15 r16 r17 r18 r19
 clear_value (hr1:r1=_) (hr2:r2=_) (hr3:r3=_) (hr4:r4=_) (hr5:r5=_) (hr6:r6=_) (hr7:r7=_) (hr8:r8=_) (hr9:r9=_) (hr10:r10=_) (hr11:r11=_) (hr12:r12=_) (hr13:r13=_) (hr14:r14=_) (hr15:r15=_) (hr16:r16=_) (hr17:r17=_) (hr18:r18=_) (hr19:r19=_)
 obtain ⟨⟨h1,h1b⟩,h2,h3,h4⟩:=hi
 have h1:n =(xs.length:Int):=h1
 have h1b:xs.length≤1000:=h1b
 have h2:0≤i:=h2
 have h3:i≤n:=h3
 have h4 :(s.size:Int)≤100*i:=h4
 have hL :(200000:Nat)≤ay:=by decide
 by_cases h:i<n
 ·have ew:IntKind.i64.wrap (i+1)=i+1:=iu (by omega) (by omega)
  have hd:=zP xs h2 (by omega)
  have e2:r2=1:=hr2.trans (by decide)
  have e6:r6=2:=by rw [hr6,e2];decide
  have e10:r10=3:=by rw [hr10,hr8];rfl
  have e17:r17=jR (xs.getD i.toNat (dflt (Ty.nm Nm.Fall))).Wicket:=by rw [hr17,hr11,hr8];exact jw _
  have e18:r18=jR (xs.getD i.toNat (dflt (Ty.nm Nm.Fall))).Runs:=by rw [hr18,hr12,hr8,e2];exact jw _
  have e19:r19=jR (xs.getD i.toNat (dflt (Ty.nm Nm.Fall))).Player:=by rw [hr19,hr14,hr8,e6];exact jw _
  have e16:r16=cF (xs.getD i.toNat (dflt (Ty.nm Nm.Fall))):=by rw [hr16,hr15,hr13,hr9,hr5,hr4];rfl
  have e7:r7=nr i s:=by
   rw [hr7,hr1,hr3]
   unfold nr
   cases decide (i>0) <;> rfl
  have z4:r4.size=2:=by rw [hr4];rfl
  have z3:r3.size=2:=by rw [hr3];rfl
  have z45 :(ByteArray.mk #[45]).size=1:=rfl
  have z41 :(ByteArray.mk #[41]).size=1:=rfl
  have z5:r5.size =(bJ (xs.getD i.toNat (dflt (Ty.nm Nm.Fall))).Wicket).size+1:=by rw [hr5,ByteArray.size_append,z45]
  have z9:r9.size=r5.size +(bJ (xs.getD i.toNat (dflt (Ty.nm Nm.Fall))).Runs).size:=by rw [hr9,ByteArray.size_append]
  have z13:r13.size=r9.size+r4.size:=by rw [hr13,ByteArray.size_append]
  have z15:r15.size=r13.size +(bJ (xs.getD i.toNat (dflt (Ty.nm Nm.Fall))).Player).size:=by rw [hr15,ByteArray.size_append]
  have z16:r16.size=r15.size+1:=by rw [hr16,ByteArray.size_append,z41]
  have z7:r7.size≤s.size+2:=by
   rw [e7]
   unfold nr
   split
   ·rw [ByteArray.size_append];exact Nat.le_refl _
   ·omega
  clear hr1 hr2 hr3 hr4 hr5 hr6 hr7 hr8 hr9 hr10 hr11 hr12 hr13 hr14 hr15 hr16 hr17 hr18 hr19
  have key:eK (s,xs,n,i,())=if jQ (xs.getD i.toNat (dflt (Ty.nm Nm.Fall))) then .inl (⟨#[]⟩,2,()) else eK (nr i s++cF (xs.getD i.toNat (dflt (Ty.nm Nm.Fall))),xs,n,i+1,()):=by
   unfold eK
   simp only []
   rw [hd]
   rfl
  rw [ew,key,decide_eq_true h,←e7,←e16]
  generalize xs.getD i.toNat (dflt (Ty.nm Nm.Fall))=x at *
  refine ⟨⟨fun _=>⟨⟨h2,by omega⟩,trivial,⟨by omega,by omega⟩,fun _=>trivial,fun b1=>⟨⟨by omega,by omega⟩,fun _=>trivial,fun b2=>⟨⟨by omega,by omega⟩,fun _=>trivial,fun b3=>⟨⟨fun _=>⟨by omega,trivial⟩,fun _=>trivial⟩,fun _=>?_⟩⟩⟩⟩,fun z=>Bool.noConfusion z⟩,?_⟩
  ·have y1:=l7 (e17▸b1)
   have y2:=l7 (e18▸b2)
   have y3:=l7 (e19▸b3)
   have w1:=la (e17▸b1)
   have w2:=la (e18▸b2)
   have w3:=la (e19▸b3)
   refine ⟨⟨w1.1,Int.le_trans w1.2 (by decide)⟩,by omega,⟨w2.1,Int.le_trans w2.2 (by decide)⟩,by omega,by omega,⟨w3.1,Int.le_trans w3.2 (by decide)⟩,by omega,by omega,by omega,⟨⟨h1,h1b⟩,?_,?_,?_⟩,?_⟩
   ·show 0≤i+1;omega
   ·show i+1≤n;omega
   ·show ((r7++r16).size:Int)≤100 *(i+1)
    rw [ByteArray.size_append];omega
   ·show (n - (i+1)).toNat <(n - i).toNat;omega
  ·unfold jQ
   rw [←e17,←e18,←e19]
   cases r17 <;> cases r18 <;> cases r19 <;> rfl
 ·rw [decide_eq_false h]
  refine ⟨⟨fun z=>Bool.noConfusion z,fun _=>trivial⟩,?_⟩
  unfold eK
  simp only [cond_false]
  rw [List.drop_eq_nil_of_le (by omega)]
  rfl
noncomputable def D7:LoopSum:=bF lpRt eK qu
noncomputable def DV:Nat:=rid (cG Tryz.f34 0)
theorem Fe:LoopOKp Tryz.prog 0 Tryz.f34.ntmps (cG Tryz.f34 0) (bF lpRt eK qu):=
 dJ lpRt (ch (.consU jh rfl .nil) _) mixed (LoopsOKp.cons (by kernel_rfl) (rb 4 (ch (.consU jh rfl .nil) _) mixed (Λ:=fun _=>none) (b:=mv Tryz.f34 0 0) rfl (fun _ _ _ h=>by cases h)) .nil) eK qu AX (fun |⟨s,xs,n,i,⟨⟩⟩,hi=>FO s xs n i hi)
theorem xf :∀ (l:List Mir.Fall) (o:List ByteArray),txA l o=if l.any jQ then .inl (⟨#[]⟩,2,()) else .inr (o++l.map cF,())
 | [],o=>by simp [txA]
 | x::r,o=>by
  unfold txA
  rw [xf r]
  cases h:jQ x <;> simp [h]
theorem BR :∀ (l:List Mir.Fall) (i:Int) (s:ByteArray),txR l i s=if l.any jQ then .inl (⟨#[]⟩,2,()) else .inr (l.foldl (fun (p:Int×ByteArray) x=>(p.1+1,nr p.1 p.2++cF x)) (i,s) |>.2,())
 | [],i,s=>by simp [txR]
 | x::r,i,s=>by
  unfold txR
  rw [BR r]
  cases h:jQ x <;> simp [h]
theorem bad_ok {x:Mir.Fall}:jQ x=false↔yV x:=by
 unfold jQ yV
 rw [Bool.or_eq_false_iff,Bool.or_eq_false_iff,ry,ry,ry]
theorem any_ok {l:List Mir.Fall}:l.any jQ=false↔uT l:=by
 rw [List.any_eq_false]
 constructor
 ·intro h x hx
  exact bad_ok.1 (by simpa using h x hx)
 ·intro h x hx
  simpa using bad_ok.2 (h x hx)
theorem kD (x:Mir.Fall) :(cF x).data.toList=aJ x:=by
 unfold cF aJ dl
 simp [ByteArray.data_append]
theorem ou (l:List Mir.Fall) :(iB (l.map cF) sepD).data.toList=gb l:=by
 unfold iB
 show Lib.join ((l.map cF).map (·.data.toList)) sepD.data.toList=_
 rw [List.map_map]
 have :((fun x:ByteArray=>x.data.toList) ∘ cF)=aJ:=by funext x;exact kD x
 rw [this]
 cases l with
 | nil=>rfl
 | cons x r=>
  rw [List.map_cons,Lib.join_cons]
  show aJ x++Lib.joinTail [44,32] (r.map aJ)=aJ x++bR r
  congr 1
  induction r with
  | nil=>rfl
  | cons y r ih=>
   show ([44,32]++aJ y)++Lib.joinTail [44,32] (r.map aJ)=_
   rw [ih]
   rfl
theorem qm :∀ (l:List Mir.Fall) (i:Int) (s:ByteArray),0<i→((l.foldl (fun (p:Int×ByteArray) x=>(p.1+1,nr p.1 p.2++cF x)) (i,s)).2).data.toList=s.data.toList++bR l
 | [],i,s,_=>by simp [bR]
 | x::r,i,s,h=>by
  rw [List.foldl_cons,qm r _ _ (by show 0<i+1;omega)]
  show (nr i s++cF x).data.toList++bR r=_
  unfold nr
  rw [decide_eq_true h,if_pos rfl,ByteArray.data_append,Array.toList_append,kD,ByteArray.data_append,Array.toList_append]
  show (s.data.toList++[44,32]++aJ x)++bR r=s.data.toList ++(44::32 ::(aJ x++bR r))
  simp
theorem vy (l:List Mir.Fall) :((l.foldl (fun (p:Int×ByteArray) x=>(p.1+1,nr p.1 p.2++cF x)) (0,(⟨#[]⟩:ByteArray))).2).data.toList=gb l:=by
 cases l with
 | nil=>rfl
 | cons x r=>
  rw [List.foldl_cons,qm r _ _ (by decide)]
  show (nr 0 ⟨#[]⟩++cF x).data.toList++bR r=_
  unfold nr
  rw [if_neg (by decide),ByteArray.data_append,Array.toList_append,kD]
  rfl
def kW (l:List Mir.Fall):ByteArray×Int:=if l.any jQ then (⟨#[]⟩,2) else (toB (gb l),0)
theorem zi (l:List Mir.Fall):gd l=kW l:=by
 unfold gd kW
 rw [xf]
 split
 ·rfl
 ·show (iB ([]++l.map cF) sepD,(0:Int))=_
  rw [List.nil_append]
  exact congrArg (fun z=>(z,(0:Int))) (nJ (ou l))
theorem zj (l:List Mir.Fall):gg l=kW l:=by
 unfold gg kW
 rw [BR]
 split
 ·rfl
 ·exact congrArg (fun z=>(z,(0:Int))) (nJ (vy l))
theorem vZ {n:Int} (h:inF n) :(dl n).length≤21:=by
 have:=qe h.1 h.2
 unfold dl
 rw [Array.length_toList]
 exact this
theorem qk {x:Mir.Fall} (h:yV x) :(aJ x).length≤70:=by
 obtain ⟨h1,h2,h3⟩:=h
 have:=vZ h1
 have:=vZ h2
 have:=vZ h3
 unfold aJ
 simp only [List.length_append,List.length_cons,List.length_nil]
 omega
theorem vx :∀ {l:List Mir.Fall},uT l→(bR l).length≤72*l.length
 | [],_=>Nat.zero_le _
 | x::r,h=>by
  have:=vx fun y hy=>h y (List.mem_cons_of_mem _ hy)
  have:=qk (h x List.mem_cons_self)
  show (44::32 ::(aJ x++bR r)).length≤72 *(r.length+1)
  simp only [List.length_cons,List.length_append]
  omega
theorem q8 {l:List Mir.Fall} (h:uT l) :(gb l).length≤72*l.length:=by
 cases l with
 | nil=>exact Nat.zero_le _
 | cons x r=>
  have:=vx fun y hy=>h y (List.mem_cons_of_mem _ hy)
  have:=qk (h x List.mem_cons_self)
  show (aJ x++bR r).length≤72 *(r.length+1)
  rw [List.length_append]
  omega
theorem y9 (l:List Mir.Fall) (hl:tY l) :(evPat (dF [jF,DI] Tryz.f33) (find [(DQ,D3)]) Tryz.f33 qFl vg (l,())).sat fun z_=>z_ =(s9 (l,())).2:=by
 refine cast (by kernel_rfl) (?_:let r1:Bool:=isL (eS (l,(↑l.length:Int),(0:Int),[],()));let r2:ByteArray:=iB (Ct (dflt (Ty.str.slice.prod Ty.unit)) (eS (l,(↑l.length:Int),(0:Int),[],()))).1 (ByteArray.mk #[44,32]);((uP fun x=>none)∧((↑l.length:Int) =(↑l.length:Int)∧l.length≤(1000:Nat))∧(0:Int)≤(0:Int)∧(0:Int)≤(↑l.length:Int)∧(↑(0:Nat):Int)≤(0:Int))∧(r1=true→Au (dflt (Ty.str.prod (I.prod Ty.unit))) (eS (l,(↑l.length:Int),(0:Int),[],())) =((gd l).1,(gd l).2,()))∧(r1=false→r2.size≤(1000000:Nat)∧(r2,(0:Int),()) =((gd l).1,(gd l).2,())))
 intro r1 r2
 clear_value (hr1:r1=_) (hr2:r2=_)
 have hl:l.length≤1000:=hl
 have e0:eS (l,(l.length:Int),0,[],())=txA l []:=rfl
 rw [e0] at hr1 hr2 ⊢
 have ht:gd l=Dz (txA l []):=rfl
 refine ⟨⟨rfl,⟨rfl,hl⟩,Int.le_refl _,by omega,Int.le_refl _⟩,?_⟩
 rw [ht]
 have hs:uT l→(iB (l.map cF) sepD).size≤1000000:=fun ho=>by
  have h1:=q8 ho
  rw [←ou l,Array.length_toList] at h1
  have h1 :(iB (l.map cF) sepD).size≤72*l.length:=h1
  omega
 rw [xf] at hr1 hr2 ⊢
 cases hb:l.any jQ with
 | true=>
  rw [hb] at hr1
  have e1:r1=true:=hr1
  exact ⟨fun _=>rfl,fun z=>absurd (e1▸z) (by decide)⟩
 | false=>
  rw [hb] at hr1 hr2
  have e1:r1=false:=hr1
  have e2:r2=iB (l.map cF) sepD:=hr2
  refine ⟨fun z=>absurd (e1▸z) (by decide),fun _=>⟨?_,?_⟩⟩
  ·rw [e2];exact hs (any_ok.1 hb)
  ·rw [e2];rfl
def xF:FuncId×Ctr:=(33,aE KE qFl vg s9)
theorem A7:CtrOK Tryz.prog KE 33 (aE KE qFl vg s9):=by
 refine ji (C:=dF [jF,DI] Tryz.f33) (ch (.consU kP rfl (.consU Fp rfl .nil)) _) mixed (fn:=Tryz.f33) Tryz.func33 (by kernel_rfl) (by kernel_rfl) (by kernel_rfl) (by kernel_rfl) (by kernel_rfl) (by kernel_rfl) (Λ:=fun x=>find [(DQ,D3)]) ?_ ?_
 ·rintro ⟨l,⟨⟩⟩ hw hn
  exact LoopsOKp.at (by kernel_rfl) (.cons (by kernel_rfl) (E8) .nil)
 ·rintro ⟨l,⟨⟩⟩ hw hn
  exact y9 l (hn _ List.mem_cons_self)
theorem w7 (l:List Mir.Fall) (hl:tY l) :(evPat (dF [gU] Tryz.f34) (find [(DV,D7)]) Tryz.f34 qFl vg (l,())).sat fun z_=>z_ =(ta (l,())).2:=by
 refine cast (by kernel_rfl) (?_:let r1:Bool:=isL (eK (ByteArray.mk #[],l,(↑l.length:Int),(0:Int),()));((uP fun x=>none)∧((↑l.length:Int) =(↑l.length:Int)∧l.length≤(1000:Nat))∧(0:Int)≤(0:Int)∧(0:Int)≤(↑l.length:Int)∧(↑(ByteArray.mk #[]).size:Int)≤(100:Int) *(0:Int))∧(r1=true→Au (dflt (Ty.str.prod (I.prod Ty.unit))) (eK (ByteArray.mk #[],l,(↑l.length:Int),(0:Int),())) =((gg l).1,(gg l).2,()))∧(r1=false→((Ct (dflt (Ty.str.prod Ty.unit)) (eK (ByteArray.mk #[],l,(↑l.length:Int),(0:Int),()))).1,(0:Int),()) =((gg l).1,(gg l).2,())))
 intro r1
 clear_value (hr1:r1=_)
 have hl:l.length≤1000:=hl
 have e0:eK (ByteArray.mk #[],l,(l.length:Int),0,())=txR l 0 ⟨#[]⟩:=rfl
 rw [e0] at hr1 ⊢
 have ht:gg l=DA (txR l 0 ⟨#[]⟩):=rfl
 refine ⟨⟨rfl,⟨rfl,hl⟩,Int.le_refl _,by omega,Int.le_refl _⟩,?_⟩
 rw [ht]
 cases hx:txR l 0 ⟨#[]⟩ with
 | inl p=>
  rw [hx] at hr1
  have e1:r1=true:=hr1
  exact ⟨fun _=>rfl,fun z=>absurd (e1▸z) (by decide)⟩
 | inr p=>
  rw [hx] at hr1
  have e1:r1=false:=hr1
  exact ⟨fun z=>absurd (e1▸z) (by decide),fun _=>rfl⟩
def uv:FuncId×Ctr:=(34,aE KE qFl vg ta)
theorem yX:CtrOK Tryz.prog KE 34 (aE KE qFl vg ta):=by
 refine ji (C:=dF [gU] Tryz.f34) (ch (.consU jh rfl .nil) _) mixed (fn:=Tryz.f34) Tryz.func34 (by kernel_rfl) (by kernel_rfl) (by kernel_rfl) (by kernel_rfl) (by kernel_rfl) (by kernel_rfl) (Λ:=fun x=>find [(DV,D7)]) ?_ ?_
 ·rintro ⟨l,⟨⟩⟩ hw hn
  exact LoopsOKp.at (by kernel_rfl) (.cons (by kernel_rfl) (Fe) .nil)
 ·rintro ⟨l,⟨⟩⟩ hw hn
  exact w7 l (hn _ List.mem_cons_self)
end Go.Proofs.YthaeofeigglbhaaGreatDoor
namespace Go.Proofs.YthaeofeigglbhaaGreatDoor
open Go Go.Mir Go.RowKit
attribute [local irreducible] Go.Mir.DT.sat Go.Mir.evPat Go.Mir.RT.sat Go.Mir.evFn
abbrev qSt:Pat:=kr [.str]
abbrev C3:Pat:=kr [.nm .Fall,.bool]
def mG (s:ByteArray):Prop:=s.size≤1000000
def w8:Den (tyP qSt)→List Prop×Den (tyP C3):=fun x=>([mG x.1],((dI x.1.data.toList).1,(dI x.1.data.toList).2,()))
abbrev c3F:List PC0:= [.h I,.h I,.h I]
abbrev qLf:Pat:=⟨[(2,.c (.ptr 0 0)),(12,.c (.ptr 1 0)),(13,.h .bool),(50,.c (.osl 2 3)),(51,.h I),(52,.h I)],[(0,.dat (.nm .Fall)),(1,.cells c3F),(2,.row 3 .str)],4⟩
abbrev xLf:List (Lf×Pat):= [(.ext 0,⟨[(2,.c (.ptr 0 0)),(12,.c (.ptr 1 0)),(13,.h .bool)],[(0,.dat (.nm .Fall)),(1,.cells c3F)],2⟩)]
abbrev TLf:Type:=Bool×Int×Int×Mir.Fall×Int×Int×Int×List ByteArray×Unit
def Da (a:Int×Int×Int) (i v:Int):Int×Int×Int:=if i==0 then (v,a.2.1,a.2.2) else if i==1 then (a.1,v,a.2.2) else (a.1,a.2.1,v)
def lfF:List ByteArray→Int→Bool→Int×Int×Int→Bool×(Int×Int×Int)
 | [],_,ok,a=>(ok,a)
 | x::r,i,ok,a=>lfF r (i+1) (ok&&((bQ x).2==0)) (Da a i (bQ x).1)
def iA (x:TLf):Prop:=(x.2.1 =(x.2.2.2.2.2.2.2.1.length:Int)∧x.2.2.2.2.2.2.2.1.length=3)∧0≤x.2.2.1∧x.2.2.1≤x.2.1
def jd (x:TLf):Nat:=(x.2.1 - x.2.2.1).toNat
def lfX (x:TLf):Bool×(Int×Int×Int):=lfF (x.2.2.2.2.2.2.2.1.drop x.2.2.1.toNat) x.2.2.1 x.1 (x.2.2.2.2.1,x.2.2.2.2.2.1,x.2.2.2.2.2.2.1)
def eJ (x:TLf):Bool×Mir.Fall×Int×Int×Int×Unit:=((lfX x).1,x.2.2.2.1,(lfX x).2.1,(lfX x).2.2.1,(lfX x).2.2.2,())
abbrev C4:Pat:=kr [Fls,I]
abbrev Cw:List (Nat×PB):= [(0,.row 1 (.nm .Fall))]
abbrev qPf:Pat:=⟨[(4,.c (.osl 0 1)),(12,.h (.slice .str)),(13,.h I),(14,.h I)],Cw,2⟩
abbrev xPf:List (Lf×Pat):= [(.ret,⟨[(2,.c .nilsl),(3,.h I)],[],0⟩),(.ext 0,⟨[(4,.c (.osl 0 1))],Cw,2⟩)]
abbrev TPf:Type:=List ByteArray×Int×Int×List Mir.Fall×Unit
abbrev OPf:Type:=Sum (Int×Unit) (List Mir.Fall×Unit)
def prB:List ByteArray→List Mir.Fall→OPf
 | [],o=> .inr (o,())
 | p::r,o=>if (dI p.data.toList).2 then prB r (o++[(dI p.data.toList).1]) else .inl (4,())
def qq (x:TPf):Prop:=(x.2.1 =(x.1.length:Int)∧x.1.length≤2000000)∧(0≤x.2.2.1∧x.2.2.1≤x.2.1)∧(x.2.2.2.1.length:Int)≤x.2.2.1∧x.1.all (fun p=>decide (p.size≤1000000))=true
def AV (x:TPf):Nat:=(x.2.1 - x.2.2.1).toNat
def eT (x:TPf):OPf:=prB (x.1.drop x.2.2.1.toNat) x.2.2.2.1
def kf:Option (List Mir.Fall)→List Mir.Fall×Int
 | none=>([],4)
 | some l=>(l,0)
def s8:Den (tyP qSt)→List Prop×Den (tyP C4):=fun x=>([mG x.1],((kf (dT x.1.data.toList)).1,(kf (dT x.1.data.toList)).2,()))
def DN:Option (List Mir.Fall)→OPf
 | none=> .inl (4,())
 | some l=> .inr (l,())
theorem zT (s:ByteArray) :(s.toList ==(ByteArray.mk #[]).toList)=s.data.toList.isEmpty:=by
 rw [ByteArray.toList_eq,ByteArray.toList_eq]
 cases s.data.toList <;> rfl
theorem De (s:ByteArray):s.data.toList.length=s.size:=by rw [Array.length_toList];rfl
theorem vu {l:List UInt8} {s:ByteArray} (hs:s.size≤1000000) (h:l.length≤s.data.toList.length) :(toB l).size≤1000000:=by
 rw [ju]
 rw [De] at h
 omega
noncomputable def lpLf:Lp:=(⟨0,dF [ow] Tryz.f86,(fun _=>none),(cG Tryz.f86 0),qLf,xLf⟩:Lp)
theorem FK (ok:Bool) (n:Int) (i:Int) (z:Mir.Fall) (a0:Int) (a1:Int) (a2:Int) (xs:List ByteArray) (hi:iA (ok,n,i,z,a0,a1,a2,xs,())) :(Go.Mir.stepG lpLf eJ (fun y:Den (tyP lpLf.q)=>iA y∧jd y<jd (ok,n,i,z,a0,a1,a2,xs,())) (ok,n,i,z,a0,a1,a2,xs,())∧Go.Mir.stepE lpLf eJ (ok,n,i,z,a0,a1,a2,xs,())=eJ (ok,n,i,z,a0,a1,a2,xs,())):=by
 refine cast (by kernel_rfl) (?_:let r1:Int:=IntKind.i64.wrap (i +(1:Int));let r2:Int×Int:=gz (xs.getD i.toNat (dflt Ty.str)) (0:Int) (1000000:Int);let r3:Bool:=r2.2 ==(0:Int);((decide (i<n)=true→((0:Int)≤i∧i <(↑xs.length:Int))∧((i ==(0:Int))=true→((0:Int)≤(0:Int)∧(0:Int) <(↑(3:Nat):Int))∧(ok=true→iA (r3,n,r1,z,r2.1,a1,a2,xs,())∧jd (r3,n,r1,z,r2.1,a1,a2,xs,())<jd (ok,n,i,z,a0,a1,a2,xs,()))∧(ok=false→iA (false,n,r1,z,r2.1,a1,a2,xs,())∧jd (false,n,r1,z,r2.1,a1,a2,xs,())<jd (ok,n,i,z,a0,a1,a2,xs,())))∧((i ==(0:Int))=false→((i ==(1:Int))=true→((0:Int)≤(1:Int)∧(1:Int) <(↑(3:Nat):Int))∧(ok=true→iA (r3,n,r1,z,a0,r2.1,a2,xs,())∧jd (r3,n,r1,z,a0,r2.1,a2,xs,())<jd (ok,n,i,z,a0,a1,a2,xs,()))∧(ok=false→iA (false,n,r1,z,a0,r2.1,a2,xs,())∧jd (false,n,r1,z,a0,r2.1,a2,xs,())<jd (ok,n,i,z,a0,a1,a2,xs,())))∧((i ==(1:Int))=false→((i ==(2:Int))=true→((0:Int)≤(2:Int)∧(2:Int) <(↑(3:Nat):Int))∧(ok=true→iA (r3,n,r1,z,a0,a1,r2.1,xs,())∧jd (r3,n,r1,z,a0,a1,r2.1,xs,())<jd (ok,n,i,z,a0,a1,a2,xs,()))∧(ok=false→iA (false,n,r1,z,a0,a1,r2.1,xs,())∧jd (false,n,r1,z,a0,a1,r2.1,xs,())<jd (ok,n,i,z,a0,a1,a2,xs,())))∧((i ==(2:Int))=false→False∧True))))∧(decide (i<n)=false→True))∧(bif decide (i<n) then bif i ==(0:Int) then bif ok then eJ (r3,n,r1,z,r2.1,a1,a2,xs,()) else eJ (false,n,r1,z,r2.1,a1,a2,xs,()) else bif i ==(1:Int) then bif ok then eJ (r3,n,r1,z,a0,r2.1,a2,xs,()) else eJ (false,n,r1,z,a0,r2.1,a2,xs,()) else bif i ==(2:Int) then bif ok then eJ (r3,n,r1,z,a0,a1,r2.1,xs,()) else eJ (false,n,r1,z,a0,a1,r2.1,xs,()) else dflt (Ty.bool.prod ((Ty.nm Nm.Fall).prod (I.prod (I.prod (I.prod Ty.unit))))) else (ok,z,a0,a1,a2,()))=eJ (ok,n,i,z,a0,a1,a2,xs,()))
 intro r1 r2 r3
 clear_value (hr1:r1=_) (hr2:r2=_) (hr3:r3=_)
 obtain ⟨⟨h1,h1b⟩,h2,h3⟩:=hi
 have h1:n =(xs.length:Int):=h1
 have h1b:xs.length=3:=h1b
 have h2:0≤i:=h2
 have h3:i≤n:=h3
 by_cases h:i<n
 ·have e1:r1=i+1:=by rw [hr1];exact iu (by omega) (by omega)
  have hd:xs.drop i.toNat=xs.getD i.toNat (dflt Ty.str)::xs.drop (i+1).toNat:=by
   have hn:i.toNat<xs.length:=by omega
   have e1 :(i+1).toNat=i.toNat+1:=by omega
   show _=List.getD xs i.toNat ByteArray.empty::_
   rw [List.drop_eq_getElem_cons hn,e1,List.getD_eq_getElem?_getD,List.getElem?_eq_getElem hn]
   rfl
  have hI :∀ (b:Bool) (c0 c1 c2:Int),iA (b,n,i+1,z,c0,c1,c2,xs,())∧jd (b,n,i+1,z,c0,c1,c2,xs,())<jd (ok,n,i,z,a0,a1,a2,xs,()):=fun b c0 c1 c2=>by
   refine ⟨⟨⟨h1,h1b⟩,?_,?_⟩,?_⟩
   ·show 0≤i+1;omega
   ·show i+1≤n;omega
   ·show (n - (i+1)).toNat <(n - i).toNat;omega
  rw [decide_eq_true h,e1]
  refine ⟨⟨fun _=>⟨⟨h2,by omega⟩,fun _=>⟨by decide,fun _=>hI _ _ _ _,fun _=>hI _ _ _ _⟩,fun q0=>⟨fun _=>⟨by decide,fun _=>hI _ _ _ _,fun _=>hI _ _ _ _⟩,fun q1=>⟨fun _=>⟨by decide,fun _=>hI _ _ _ _,fun _=>hI _ _ _ _⟩,fun q2=>?_⟩⟩⟩,fun z=>Bool.noConfusion z⟩,?_⟩
  ·have q0 :¬ i=0:=by simpa using q0
   have q1 :¬ i=1:=by simpa using q1
   have q2 :¬ i=2:=by simpa using q2
   omega
  ·have key:eJ (ok,n,i,z,a0,a1,a2,xs,())=eJ (ok&&r3,n,i+1,z,(Da (a0,a1,a2) i r2.1).1,(Da (a0,a1,a2) i r2.1).2.1,(Da (a0,a1,a2) i r2.1).2.2,xs,()):=by
    unfold eJ lfX
    simp only []
    rw [hd,hr3,hr2]
    rfl
   rw [key]
   have hc:i=0∨i=1∨i=2:=by omega
   clear key hI hd hr1 hr2 hr3 e1
   rcases hc with rfl|rfl|rfl <;> cases ok <;> rfl
 ·rw [decide_eq_false h]
  refine ⟨⟨fun z=>Bool.noConfusion z,fun _=>trivial⟩,?_⟩
  unfold eJ lfX
  simp only [cond_false]
  rw [List.drop_eq_nil_of_le (by omega)]
  rfl
noncomputable def D4:LoopSum:=bF lpLf eJ iA
noncomputable def DR:Nat:=rid (cG Tryz.f86 0)
theorem E9:LoopOKp Tryz.prog 0 Tryz.f86.ntmps (cG Tryz.f86 0) (bF lpLf eJ iA):=
 dJ lpLf (ch (.consU qK rfl .nil) _) mixed (fun b hb S hS=>by cases hS) eJ iA jd (fun |⟨ok,n,i,z,a0,a1,a2,xs,⟨⟩⟩,hi=>FK ok n i z a0 a1 a2 xs hi)
theorem y8 (s:ByteArray) (hs:mG s) :(evPat (dF [Gx,ow] Tryz.f86) (find [(DR,D4)]) Tryz.f86 qSt C3 (s,())).sat fun z_=>z_ =(w8 (s,())).2:=by
 refine cast (by kernel_rfl) (?_:let r1:ByteArray:=toB (iP s (ByteArray.mk #[45])).1;let r2:ByteArray:=toB (iP s (ByteArray.mk #[45])).2.1;let r3:Int×Int:=bQ r1;let r4:ByteArray:=toB (iP r2 (ByteArray.mk #[32,40])).1;let r5:ByteArray:=toB (iP r2 (ByteArray.mk #[32,40])).2.1;let r6:Int×Int:=bQ r4;let r7:ByteArray:=toB (iP r5 (ByteArray.mk #[41])).1;let r8:Int×Int:=bQ r7;let r9:List ByteArray:= [r1,r4,r7];let r10:Int:=(↑r9.length:Int);s.size≤(1000000:Nat)∧r2.size≤(1000000:Nat)∧r5.size≤(1000000:Nat)∧((uP fun x=>none)∧(r10 =(↑r9.length:Int)∧nat_lit 3=nat_lit 3)∧(0:Int)≤(0:Int)∧(0:Int)≤r10)∧((0:Int)≤(0:Int)∧(0:Int) <(↑(3:Nat):Int))∧((0:Int)≤(1:Int)∧(1:Int) <(↑(3:Nat):Int))∧((0:Int)≤(2:Int)∧(2:Int) <(↑(3:Nat):Int))∧(Mir.Fall.mk r3.1 r6.1 r8.1 (0:Int),(bif (iP s (ByteArray.mk #[45])).2.2 then bif (iP r2 (ByteArray.mk #[32,40])).2.2 then bif (iP r5 (ByteArray.mk #[41])).2.2 then (toB (iP r5 (ByteArray.mk #[41])).2.1).toList ==(ByteArray.mk #[]).toList else false else false else false)&&r3.2 ==(0:Int)&&r6.2 ==(0:Int)&&r8.2 ==(0:Int),()) =(Mir.Fall.mk (bQ (toB (c1A s.1.1).1)).1 (bQ (toB (c2A s.1.1).1)).1 (bQ (toB (c3A s.1.1).1)).1 (0:Int),(c1A s.1.1).2.2&&((c2A s.1.1).2.2&&((c3A s.1.1).2.2&&((c3A s.1.1).2.1.isEmpty&&((bQ (toB (c1A s.1.1).1)).2 ==(0:Int)&&((bQ (toB (c2A s.1.1).1)).2 ==(0:Int)&&(bQ (toB (c3A s.1.1).1)).2 ==(0:Int)))))),()))
 intro r1 r2 r3 r4 r5 r6 r7 r8 r9 r10
 clear_value (hr1:r1=_) (hr2:r2=_) (hr3:r3=_) (hr4:r4=_) (hr5:r5=_) (hr6:r6=_) (hr7:r7=_) (hr8:r8=_) (hr9:r9=_) (hr10:r10=_)
 have hs:s.size≤1000000:=hs
 have d1:r1=toB (c1A s.data.toList).1:=hr1
 have d2:r2=toB (c1A s.data.toList).2.1:=hr2
 subst d2
 have d4:r4=toB (c2A s.data.toList).1:=hr4
 have d5:r5=toB (c2A s.data.toList).2.1:=hr5
 subst d5
 have d7:r7=toB (c3A s.data.toList).1:=hr7
 have l1 :(c1A s.data.toList).2.1.length≤s.data.toList.length:=(rO _ _).2
 have l2 :(c2A s.data.toList).2.1.length≤s.data.toList.length:=Nat.le_trans (rO _ _).2 l1
 have h9:r9.length=3:=by rw [hr9];rfl
 refine ⟨hs,vu hs l1,vu hs l2,⟨rfl,⟨hr10,rfl⟩,by decide,by omega⟩,by decide,by decide,by decide,?_⟩
 rw [hr3,hr6,hr8,d1,d4,d7,zT]
 generalize ((bQ (toB (c1A s.data.toList).1)).2==0)=b1
 generalize ((bQ (toB (c2A s.data.toList).1)).2==0)=b2
 generalize ((bQ (toB (c3A s.data.toList).1)).2==0)=b3
 have q1 :(iP s (ByteArray.mk #[45])).2.2 =(c1A s.data.toList).2.2:=rfl
 have q2 :(iP (toB (c1A s.data.toList).2.1) (ByteArray.mk #[32,40])).2.2 =(c2A s.data.toList).2.2:=rfl
 have q3:iP (toB (c2A s.data.toList).2.1) (ByteArray.mk #[41])=c3A s.data.toList:=rfl
 have q4 :(toB (c3A s.data.toList).2.1).data.toList =(c3A s.data.toList).2.1:=rfl
 rw [q1,q2,q3,q4]
 cases (c1A s.data.toList).2.2 <;> cases (c2A s.data.toList).2.2 <;> cases (c3A s.data.toList).2.2 <;> cases (c3A s.data.toList).2.1.isEmpty <;> cases b1 <;> cases b2 <;> cases b3 <;> rfl
def sD:FuncId×Ctr:=(86,aE KE qSt C3 w8)
theorem uV:CtrOK Tryz.prog KE 86 (aE KE qSt C3 w8):=by
 refine ji (C:=dF [Gx,ow] Tryz.f86) (ch (.consU GE rfl (.consU qK rfl .nil)) _) mixed (fn:=Tryz.f86) Tryz.func86 (by kernel_rfl) (by kernel_rfl) (by kernel_rfl) (by kernel_rfl) (by kernel_rfl) (by kernel_rfl) (Λ:=fun x=>find [(DR,D4)]) ?_ ?_
 ·rintro ⟨s,⟨⟩⟩ hw hn
  exact LoopsOKp.at (by kernel_rfl) (.cons (by kernel_rfl) (E9) .nil)
 ·rintro ⟨s,⟨⟩⟩ hw hn
  exact y8 s (hn _ List.mem_cons_self)
noncomputable def lpPf:Lp:=(⟨0,dF [sD] Tryz.f35,(fun _=>none),(cG Tryz.f35 0),qPf,xPf⟩:Lp)
theorem FM (xs:List ByteArray) (n:Int) (i:Int) (o:List Mir.Fall) (hi:qq (xs,n,i,o,())) :(Go.Mir.stepG lpPf eT (fun y:Den (tyP lpPf.q)=>qq y∧AV y<AV (xs,n,i,o,())) (xs,n,i,o,())∧Go.Mir.stepE lpPf eT (xs,n,i,o,())=eT (xs,n,i,o,())):=by
 refine cast (by kernel_rfl) (?_:let r1:Int×Int:=bQ (toB (c1A (xs.getD i.toNat (dflt Ty.str)).1.1).1);let r2:Int×Int:=bQ (toB (c2A (xs.getD i.toNat (dflt Ty.str)).1.1).1);let r3:Int×Int:=bQ (toB (c3A (xs.getD i.toNat (dflt Ty.str)).1.1).1);let r4:List Mir.Fall:= [Mir.Fall.mk r1.1 r2.1 r3.1 (0:Int)];let r5:Bool:=!((c1A (xs.getD i.toNat (dflt Ty.str)).1.1).2.2&&((c2A (xs.getD i.toNat (dflt Ty.str)).1.1).2.2&&((c3A (xs.getD i.toNat (dflt Ty.str)).1.1).2.2&&((c3A (xs.getD i.toNat (dflt Ty.str)).1.1).2.1.isEmpty&&(r1.2 ==(0:Int)&&(r2.2 ==(0:Int)&&r3.2 ==(0:Int)))))));((decide (i<n)=true→((0:Int)≤i∧i <(↑xs.length:Int))∧mG (xs.getD i.toNat (dflt Ty.str))∧(r5=true→True)∧(r5=false→(o.length+r4.length) *(32:Nat)≤(70368744177664:Nat)∧qq (xs,n,IntKind.i64.wrap (i +(1:Int)),o++r4,())∧AV (xs,n,IntKind.i64.wrap (i +(1:Int)),o++r4,())<AV (xs,n,i,o,())))∧(decide (i<n)=false→True))∧(bif decide (i<n) then bif r5 then Sum.inl ((4:Int),()) else eT (xs,n,IntKind.i64.wrap (i +(1:Int)),o++r4,()) else Sum.inr (o,()))=eT (xs,n,i,o,()))
 intro r1 r2 r3 r4 r5
 clear_value (hr1:r1=_) (hr2:r2=_) (hr3:r3=_) (hr4:r4=_) (hr5:r5=_)
 obtain ⟨⟨h1,h1b⟩,⟨h2,h3⟩,h4,h5⟩:=hi
 have h1:n =(xs.length:Int):=h1
 have h1b:xs.length≤2000000:=h1b
 have h2:0≤i:=h2
 have h3:i≤n:=h3
 have h4 :(o.length:Int)≤i:=h4
 have h5:xs.all (fun p=>decide (p.size≤1000000))=true:=h5
 by_cases h:i<n
 ·have ew:IntKind.i64.wrap (i+1)=i+1:=iu (by omega) (by omega)
  have hd:xs.drop i.toNat=xs.getD i.toNat (dflt Ty.str)::xs.drop (i+1).toNat:=by
   have hn:i.toNat<xs.length:=by omega
   have e1 :(i+1).toNat=i.toNat+1:=by omega
   show _=List.getD xs i.toNat ByteArray.empty::_
   rw [List.drop_eq_getElem_cons hn,e1,List.getD_eq_getElem?_getD,List.getElem?_eq_getElem hn]
   rfl
  have hsz :(xs.getD i.toNat (dflt Ty.str)).size≤1000000:=by
   have hn:i.toNat<xs.length:=by omega
   show (List.getD xs i.toNat ByteArray.empty).size≤1000000
   rw [List.getD_eq_getElem?_getD,List.getElem?_eq_getElem hn]
   have:=List.all_eq_true.1 h5 _ (List.getElem_mem hn)
   simpa using this
  have e4:r4=[(dI (xs.getD i.toNat (dflt Ty.str)).data.toList).1]:=by rw [hr4,hr1,hr2,hr3];rfl
  have e5:r5=!(dI (xs.getD i.toNat (dflt Ty.str)).data.toList).2:=by rw [hr5,hr1,hr2,hr3];rfl
  have l4:r4.length=1:=by rw [e4];rfl
  have key:eT (xs,n,i,o,())=if (dI (xs.getD i.toNat (dflt Ty.str)).data.toList).2 then eT (xs,n,i+1,o++[(dI (xs.getD i.toNat (dflt Ty.str)).data.toList).1],()) else .inl (4,()):=by
   unfold eT
   simp only []
   rw [hd]
   rfl
  rw [ew,key,decide_eq_true h,←e4]
  clear hr1 hr2 hr3 hr4 hr5 key e4
  refine ⟨⟨fun _=>⟨⟨h2,by omega⟩,hsz,fun _=>trivial,fun _=>⟨by omega,⟨⟨h1,h1b⟩,⟨?_,?_⟩,?_,h5⟩,?_⟩⟩,fun z=>Bool.noConfusion z⟩,?_⟩
  ·show 0≤i+1;omega
  ·show i+1≤n;omega
  ·show ((o++r4).length:Int)≤i+1
   rw [List.length_append];omega
  ·show (n - (i+1)).toNat <(n - i).toNat;omega
  ·rw [e5]
   cases (dI (xs.getD i.toNat (dflt Ty.str)).data.toList).2 <;> rfl
 ·rw [decide_eq_false h]
  refine ⟨⟨fun z=>Bool.noConfusion z,fun _=>trivial⟩,?_⟩
  unfold eT
  simp only [cond_false]
  rw [List.drop_eq_nil_of_le (by omega)]
  rfl
noncomputable def D5:LoopSum:=bF lpPf eT qq
noncomputable def DS:Nat:=rid (cG Tryz.f35 0)
theorem Fa:LoopOKp Tryz.prog 0 Tryz.f35.ntmps (cG Tryz.f35 0) (bF lpPf eT qq):=
 dJ lpPf (ch (.consU uV rfl .nil) _) mixed (fun b hb S hS=>by cases hS) eT qq AV (fun |⟨xs,n,i,o,⟨⟩⟩,hi=>FM xs n i o hi)
theorem Bg :∀ (l:List ByteArray) (o:List Mir.Fall),prB l o=DN (prA (l.map (·.data.toList)) o)
 | [],_=>rfl
 | p::r,o=>by
  show (if (dI p.data.toList).2=true then prB r (o++[(dI p.data.toList).1]) else _)=DN (if (dI p.data.toList).2=true then prA (r.map (·.data.toList)) (o++[(dI p.data.toList).1]) else none)
  rw [Bg r]
  split <;> rfl
theorem u6 (s:ByteArray) :(bZ s (ByteArray.mk #[44,32])).map (·.data.toList)=lM s.data.toList:=Lib.splitB_data _ _ _ _
theorem w6 (s:ByteArray) (hs:mG s) :(evPat (dF [xD,sD] Tryz.f35) (find [(DS,D5)]) Tryz.f35 qSt C4 (s,())).sat fun z_=>z_ =(s8 (s,())).2:=by
 refine cast (by kernel_rfl) (?_:let r1:Bool:=s.toList ==(ByteArray.mk #[]).toList;let r2:ByteArray:=ByteArray.mk #[44,32];let r3:List ByteArray:=Dy (s,r2,());let r4:Int:=(↑r3.length:Int);let r5:Bool:=isL (eT (r3,r4,(0:Int),[],()));(r1=true→([],(0:Int),()) =((kf (dT s.1.1)).1,(kf (dT s.1.1)).2,()))∧(r1=false→(s.size≤(1000000:Nat)∧(1:Nat)≤r2.size)∧((uP fun x=>none)∧(r4 =(↑r3.length:Int)∧r3.length≤(2000000:Nat))∧((0:Int)≤(0:Int)∧(0:Int)≤r4)∧(↑(0:Nat):Int)≤(0:Int)∧(r3.all fun p=>decide (p.size≤(1000000:Nat)))=true)∧(r5=true→([],Au (dflt (I.prod Ty.unit)) (eT (r3,r4,(0:Int),[],()))) =((kf (dT s.1.1)).1,(kf (dT s.1.1)).2,()))∧(r5=false→((Ct (dflt ((Ty.nm Nm.Fall).slice.prod Ty.unit)) (eT (r3,r4,(0:Int),[],()))).1,(0:Int),()) =((kf (dT s.1.1)).1,(kf (dT s.1.1)).2,()))))
 intro r1 r2 r3 r4 r5
 clear_value (hr1:r1=_) (hr2:r2=_) (hr3:r3=_) (hr4:r4=_) (hr5:r5=_)
 have hs:s.size≤1000000:=hs
 have e1:r1=s.data.toList.isEmpty:=by rw [hr1];exact zT s
 have e3:r3=bZ s (ByteArray.mk #[44,32]):=by rw [hr3,hr2];rfl
 have z2:1≤r2.size:=by rw [hr2];decide
 have hlen :(bZ s (ByteArray.mk #[44,32])).length=Lib.countB s (ByteArray.mk #[44,32])+1:=Lib.splitB_all (ByteArray.mk #[44,32]) (by decide) 0 _ s rfl
 have hle:=Lib.countB_le (ByteArray.mk #[44,32]) (by decide) s.size s (Nat.le_refl _)
 have e0:eT (r3,r4,0,[],())=prB r3 []:=rfl
 rw [e0] at hr5 ⊢
 have hA:dT s.data.toList=if s.data.toList.isEmpty=true then some [] else prA (lM s.data.toList) []:=rfl
 refine ⟨fun h=>?_,fun h=>⟨⟨hs,z2⟩,⟨rfl,⟨hr4,by rw [e3,hlen];omega⟩,⟨Int.le_refl _,by omega⟩,Int.le_refl _,?_⟩,?_⟩⟩
 ·rw [hA,←e1,h];rfl
 ·rw [e3]
  refine List.all_eq_true.2 fun p hp=>decide_eq_true ?_
  exact Nat.le_trans (ng s _ p hp) hs
 ·rw [hA,←e1,h]
  rw [Bg,e3,u6] at hr5 ⊢
  simp only [Bool.false_eq_true,if_false]
  cases hx:prA (lM s.data.toList) [] with
  | none=>
   rw [hx] at hr5
   have e5:r5=true:=hr5
   exact ⟨fun _=>rfl,fun z=>absurd (e5▸z) (by decide)⟩
  | some l=>
   rw [hx] at hr5
   have e5:r5=false:=hr5
   exact ⟨fun z=>absurd (e5▸z) (by decide),fun _=>rfl⟩
def uu:FuncId×Ctr:=(35,aE KE qSt C4 s8)
theorem yW:CtrOK Tryz.prog KE 35 (aE KE qSt C4 s8):=by
 refine ji (C:=dF [xD,sD] Tryz.f35) (ch (.consU A4 rfl (.consU uV rfl .nil)) _) mixed (fn:=Tryz.f35) Tryz.func35 (by kernel_rfl) (by kernel_rfl) (by kernel_rfl) (by kernel_rfl) (by kernel_rfl) (by kernel_rfl) (Λ:=fun x=>find [(DS,D5)]) ?_ ?_
 ·rintro ⟨s,⟨⟩⟩ hw hn
  exact LoopsOKp.at (by kernel_rfl) (.cons (by kernel_rfl) (Fa) .nil)
 ·rintro ⟨s,⟨⟩⟩ hw hn
  exact w6 s (hn _ List.mem_cons_self)
end Go.Proofs.YthaeofeigglbhaaGreatDoor
namespace Go.Mir
open Go.RowKit
inductive Rn (γ:Type) where
 | ok (r:γ)
 | no (w:List Nat)
inductive Tri (α:Type) where
 | lf
 | nd (l:Tri α) (v:Option α) (r:Tri α)
def Tri.get {α:Type} (t:Tri α):Nat→Option α:=
 match t with
 | .lf=>fun _=>none
 | .nd l v r=>fun k=>Nat.casesOn (motive:=fun _=>Option α) k v fun k=>Bool.casesOn (motive:=fun _=>Option α) (Nat.beq (Nat.mod k 2) 0) (r.get (Nat.div k 2)) (l.get (Nat.div k 2))
def IntKind.eqb (a b:IntKind):Bool:=decide (a=b)
mutual
def V.eqb:V→V→Bool
 | .any,.any=>true
 | .int k n,.int k' n'=>decide (k=k')&&decide (n=n')
 | .bool a,.bool b=>decide (a=b)
 | .kb a,.kb b=>decide (a=b)
 | .str s,.str t=>decide (s.data.toList=t.data.toList)
 | .nilptr,.nilptr=>true
 | .ptr h o,.ptr h' o'=>Nat.beq h h'&&Nat.beq o o'
 | .nilsl,.nilsl=>true
 | .esl,.esl=>true
 | .gsl h v e o l,.gsl h' v' e' o' l'=>Nat.beq h h'&&Nat.beq v v'&&Nat.beq e e'&&Nat.beq o o'&&Nat.beq l l'
 | .gp h v o,.gp h' v' o'=>Nat.beq h h'&&Nat.beq v v'&&Nat.beq o o'
 | .mpv h,.mpv h'=>Nat.beq h h'
 | .nilfn,.nilfn=>true
 | .nilmap,.nilmap=>true
 | .fn f cs,.fn f' cs'=>Nat.beq f f'&&tP cs cs'
 | .agg cs,.agg cs'=>tP cs cs'
 | .tup cs,.tup cs'=>tP cs cs'
 | _,_=>false
def tP:List V→List V→Bool
 | [],[]=>true
 | x::xs,y::ys=>V.eqb x y&&tP xs ys
 | _,_=>false
end
mutual
theorem V.eqb_eq :∀ (x y:V),V.eqb x y=true→x=y
 | .any,y,h=>by cases y <;> simp_all [V.eqb]
 | .int k n,y,h=>by cases y <;> simp_all [V.eqb]
 | .bool _,y,h=>by cases y <;> simp_all [V.eqb]
 | .kb _,y,h=>by cases y <;> simp_all [V.eqb]
 | .hint _ _,y,h=>by cases y <;> simp [V.eqb] at h
 | .str s,y,h=>by
  cases y <;> simp only [V.eqb,Bool.false_eq_true,decide_eq_true_eq] at h
  rename_i t
  have:s=t:=ByteArray.ext (Array.toList_inj.1 h)
  rw [this]
 | .nilptr,y,h=>by cases y <;> simp_all [V.eqb]
 | .ptr _ _,y,h=>by cases y <;> simp_all [V.eqb]
 | .fp _ _ _ _,y,h=>by cases y <;> simp [V.eqb] at h
 | .rp _ _ _ _,y,h=>by cases y <;> simp [V.eqb] at h
 | .nilsl,y,h=>by cases y <;> simp_all [V.eqb]
 | .esl,y,h=>by cases y <;> simp_all [V.eqb]
 | .osl _ _,y,h=>by cases y <;> simp [V.eqb] at h
 | .fsl _ _,y,h=>by cases y <;> simp [V.eqb] at h
 | .gsl _ _ _ _ _,y,h=>by cases y <;> simp_all [V.eqb]
 | .gp _ _ _,y,h=>by cases y <;> simp_all [V.eqb]
 | .mpv _,y,h=>by cases y <;> simp_all [V.eqb]
 | .nilfn,y,h=>by cases y <;> simp_all [V.eqb]
 | .nilmap,y,h=>by cases y <;> simp_all [V.eqb]
 | .fn f cs,y,h=>by
  cases y <;> simp only [V.eqb,Bool.false_eq_true,Bool.and_eq_true,Nat.beq_eq] at h
  rw [h.1,nt _ _ h.2]
 | .agg cs,y,h=>by
  cases y <;> simp only [V.eqb,Bool.false_eq_true] at h
  rw [nt _ _ h]
 | .tup cs,y,h=>by
  cases y <;> simp only [V.eqb,Bool.false_eq_true] at h
  rw [nt _ _ h]
theorem nt :∀ (xs ys:List V),tP xs ys=true→xs=ys
 | [],[],_=>rfl
 | [],_::_,h=>by simp [tP] at h
 | _::_,[],h=>by simp [tP] at h
 | x::xs,y::ys,h=>by
  simp only [tP,Bool.and_eq_true] at h
  rw [V.eqb_eq _ _ h.1,nt _ _ h.2]
end
def yG:List (V×V)→List (V×V)→Bool
 | [],[]=>true
 |(a,b)::xs,(c,d)::ys=>V.eqb a c&&V.eqb b d&&yG xs ys
 | _,_=>false
theorem xq :∀ (xs ys:List (V×V)),yG xs ys=true→xs=ys
 | [],[],_=>rfl
 | [],_::_,h=>by simp [yG] at h
 | _::_,[],h=>by simp [yG] at h
 |(a,b)::xs,(c,d)::ys,h=>by
  simp only [yG,Bool.and_eq_true] at h
  rw [V.eqb_eq _ _ h.1.1,V.eqb_eq _ _ h.1.2,xq _ _ h.2]
end Go.Mir
namespace Go.Mir
open Go.RowKit
variable {P:Program}
def Ob.chk:Ob→Bool
 | .rng n len=>decide (0≤n)&&decide (n <(len:Int))
 | .sub l h len=>decide (0≤l)&&decide (l≤h)&&decide (h≤(len:Int))
 | .mk n c=>decide (0≤n)&&decide (c=n)&&decide (n≤17179869184)
 | .mkc n c=>decide (0≤n)&&decide (n≤c)&&decide (c≤17179869184)
 | .ne0 n=>!decide (n=0)
 | .leN a b=>Nat.ble a b
 | .prop _=>false
theorem Ob.chk_holds :∀ {p:Ob},p.chk=true→p.holds
 | .rng n len,h=>by simpa [Ob.chk,Ob.holds] using h
 | .sub l h len,hh=>by simp only [Ob.chk,Bool.and_eq_true,decide_eq_true_eq] at hh;exact ⟨hh.1.1,hh.1.2,hh.2⟩
 | .mk n c,h=>by simp only [Ob.chk,Bool.and_eq_true,decide_eq_true_eq] at h;exact ⟨h.1.1,h.1.2,h.2⟩
 | .mkc n c,h=>by simp only [Ob.chk,Bool.and_eq_true,decide_eq_true_eq] at h;exact ⟨h.1.1,h.1.2,h.2⟩
 | .ne0 n,h=>by simpa [Ob.chk,Ob.holds] using h
 | .leN a b,h=>Nat.le_of_ble_eq_true h
def gh:V→V
 | .bool b=> .kb b
 | v=>v
structure RS where
 tm:Tri V
 hp:Tri Blk
 nx:Nat
abbrev zn:=FuncId→List V→Tri Blk→Nat→Rn (V×Tri Blk×Nat)
def jn (r:Res):Option (List Ob×V×List (Nat×Blk)):=match r with
 | .val ps v dh=>some (ps,v,dh)
 | _=>none
abbrev R1:=Option (List Ob×V×List (Nat×Blk))
def wX (tb:Tbl) (H:aj) (ev:Operand→V) (t:TypeId) (a x:Operand):R1:=match tb t with
 | some td=>match b9 td H (ev a) (ev x) with
  | .skip ps dh=>some (ps,.tup [],dh)
  | _=>none
 | none=>none
def qU (ev:Operand→V) (x:Operand):R1:=some ([],ev x,[])
def DP (ev:Operand→V) (c a b:Operand):R1:=jn (mh (ev c) (ev a) (ev b))
def wR (tb:Tbl) (m:Nat) (t:TypeId):R1:=match tb t with|some td=>some ([],.ptr m 0,[(m,.cells td.zero)])|none=>none
def FD (m:Nat) (ev:Operand→V) (x:Operand):R1:=match cellsOf (ev x) with|some cs=>some ([],.ptr m 0,[(m,.cells cs)])|none=>none
def wS (tb:Tbl) (ev:Operand→V) (t:TypeId) (parts:Array (Nat×Operand)):R1:=match tb t with|some td=>jn (jA tb td (parts.toList.map fun p=>(p.1,ev p.2)))|none=>none
def jm (tb:Tbl) (m:Nat) (H:aj) (ev:Operand→V) (t:TypeId) (n:Nat) (parts:Array (Nat×Operand)):R1:=match tb t with|some td=>jn (ca tb td H m n (parts.toList.map fun p=>(p.1,ev p.2)))|none=>none
def Bo (tb:Tbl) (H:aj) (ev:Operand→V) (t:TypeId) (a:Operand):R1:=match tb t with|some td=>jn (dx td H (ev a))|none=>none
def GI (ev:Operand→V) (x:Operand):R1:=jn (tV (ev x))
def FC (tb:Tbl) (ev:Operand→V) (op:BinOp) (t:TypeId) (x y:Operand):R1:=match tb t with|some td=>jn (dH td op (ev x) (ev y))|none=>none
def rUn (ev:Operand→V) (op:UnOp) (x:Operand):R1:=jn (zX op (ev x))
def Bl (tb:Tbl) (m:Nat) (ev:Operand→V) (s d:TypeId) (x:Operand):R1:=match tb s,tb d with|some ts,some td=>jn (nv tb ts td m (ev x))|_,_=>none
def bf:List V→Bool
 | []=>true
 | .ptr _ _::_=>true
 | _=>false
theorem wO {asz caps:List V} (h:bf caps=true):mi asz caps=some (asz++caps):=by
 cases caps with
 | nil=>simp [mi]
 | cons c cs=>cases c <;> simp only [bf,Bool.false_eq_true] at h;rfl
theorem wP {f:FuncId} {caps:List V} (h:bf caps=true):mf f [] caps = .val [] (.fn f caps) []:=by
 cases caps with
 | nil=>rfl
 | cons c cs=>cases c <;> simp only [bf,Bool.false_eq_true] at h;rfl
theorem Bd {E:Env} {f:FuncId} {caps:List V} {l:Array Value} (h:bf caps=true) (hl:ab E caps l.toList):fnV f l = .func (.func f) #[] l:=by
 obtain ⟨l⟩:=l
 cases caps with
 | nil=>cases l with
  | nil=>rfl
  | cons=>simp [ab] at hl
 | cons c cs=>
  cases c <;> simp only [bf,Bool.false_eq_true] at h
  cases l with
  | nil=>simp [ab] at hl
  | cons v vs=>
   simp only [ab,aa] at hl
   obtain ⟨⟨_,⟨a,rfl⟩,_⟩,_⟩:=hl
   rfl
def Bm (ev:Operand→V) (fn:Fn) (first caps:Array Operand):R1:=match fn with
 | .func f=>jn (mf f (first.toList.map ev) (caps.toList.map ev))
 | _=>none
def Bp (tb:Tbl) (m:Nat) (H:aj) (ev:Operand→V) (t:TypeId) (l c:Operand):R1:=match tb t with|some td=>jn (eV tb td H m (ev l) (ev c))|none=>none
def wW (tb:Tbl) (H:aj) (ev:Operand→V) (t:TypeId) (x:Operand) (lo hi mx:Option Operand):R1:=match tb t with|some td=>jn (dy tb td H (ev x) (lo.map ev) (hi.map ev) (mx.map ev))|none=>none
def wT (tb:Tbl) (ev:Operand→V) (t:TypeId) (x:Operand) (f:Nat):R1:=match tb t with|some td=>jn (gr tb td (ev x) f)|none=>none
def sW (tb:Tbl) (ev:Operand→V) (t:TypeId) (x:Operand) (f:Nat):R1:=match tb t with|some td=>jn (fm tb td (ev x) f)|none=>none
def wV (tb:Tbl) (H:aj) (ev:Operand→V) (t:TypeId) (x i:Operand):R1:=match tb t with|some td=>jn (cq tb td H (ev x) (ev i))|none=>none
def Bn (tb:Tbl) (ev:Operand→V) (t:TypeId) (x i:Operand):R1:=match tb t with|some td=>jn (iR tb td (ev x) (ev i))|none=>none
def vi (ev:Operand→V) (t:Operand) (i:Nat):R1:=jn (jB (ev t) i)
theorem ze {td:TD} {H:aj} {a x:V} {ps:List Ob} {dh:List (Nat×Blk)} (h:b9 td H a x = .skip ps dh):dz td H a x = .skip ps dh:=by
 unfold dz
 split
 ·rw [h]
 ·exact h
def nS (tb:Tbl) (N m:Nat) (H:aj) (ev:Operand→V) (op:Op):R1:=match op with
 | .store t a x=>wX tb H ev t a x
 | .move x=>qU ev x
 | .assign x=>qU ev x
 | .pick c a b=>DP ev c a b
 | .alloc t=>wR tb m t
 | .box _ x=>FD m ev x
 | .build t parts=>wS tb ev t parts
 | .buildSlice t n parts=>jm tb m H ev t n parts
 | .load t a=>Bo tb H ev t a
 | .nilCheck x=>GI ev x
 | .binOp op t x y _=>FC tb ev op t x y
 | .unOp op _ x=>rUn ev op x
 | .convert s d x=>Bl tb m ev s d x
 | .makeFunc fn first caps=>Bm ev fn first caps
 | .makeSlice t l c=>Bp tb m H ev t l c
 | .slice t x lo hi mx=>wW tb H ev t x lo hi mx
 | .fieldAddr t x f=>wT tb ev t x f
 | .field t x f=>sW tb ev t x f
 | .indexAddr t x i=>wV tb H ev t x i
 | .index t x i=>Bn tb ev t x i
 | .extract t i=>vi ev t i
 | op=>an ⟨tb,fun _=>none,1,N⟩ m H ev op
theorem mc (tb:Tbl) (N m:Nat) (H:aj) (ev:Operand→V) (op:Op) {q:List Ob×V×List (Nat×Blk)} (h:nS tb N m H ev op=some q):an ⟨tb,fun _=>none,1,N⟩ m H ev op=some q:=by
 have key :∀ {r:Res},jn r=some q→(match r with | .val ps v dh=>some (ps,v,dh)|_=>none:R1)=some q:=fun {r} h=>by cases r <;> first|exact h|cases h
 cases op <;> simp only [nS] at h <;> simp only [an,bg,ba]
 case store t a x=>simp only [wX] at h;cases ht:tb t <;> rw [ht] at h <;> simp only [reduceCtorEq] at h ⊢;cases hs:b9 _ H (ev a) (ev x) <;> rw [hs] at h <;> simp only [reduceCtorEq] at h ⊢;rw [ze hs];exact h
 case move=>simpa [qU] using h
 case assign=>simpa [qU] using h
 case pick=>exact key h
 case alloc t=>simp only [wR] at h;cases ht:tb t <;> rw [ht] at h <;> simp only [reduceCtorEq] at h ⊢;exact h
 case box t x=>simp only [FD] at h;cases ht:cellsOf (ev x) <;> rw [ht] at h <;> simp only [reduceCtorEq] at h ⊢;exact h
 case build t parts=>simp only [wS] at h;cases ht:tb t <;> rw [ht] at h <;> simp only [reduceCtorEq] at h ⊢;exact key h
 case buildSlice t n parts=>simp only [jm] at h;cases ht:tb t <;> rw [ht] at h <;> simp only [reduceCtorEq] at h ⊢;exact key h
 case load t a=>simp only [Bo] at h;cases ht:tb t <;> rw [ht] at h <;> simp only [reduceCtorEq] at h ⊢;exact key h
 case nilCheck=>exact key h
 case binOp o t x y t2=>simp only [FC] at h;cases ht:tb t <;> rw [ht] at h <;> simp only [reduceCtorEq] at h ⊢;exact key h
 case unOp=>exact key h
 case convert s d x=>
  simp only [Bl] at h
  cases ht:tb s with
  | none=>rw [ht] at h;cases h
  | some ts=>
   rw [ht] at h
   cases ht2:tb d with
   | none=>rw [ht2] at h;cases h
   | some td=>rw [ht2] at h;exact key h
 case makeFunc fn first caps=>
  cases fn <;> simp only [Bm,reduceCtorEq] at h
  exact key h
 case makeSlice t l c=>simp only [Bp] at h;cases ht:tb t <;> rw [ht] at h <;> simp only [reduceCtorEq] at h ⊢;exact key h
 case slice t x lo hi mx=>simp only [wW] at h;cases ht:tb t <;> rw [ht] at h <;> simp only [reduceCtorEq] at h ⊢;exact key h
 case fieldAddr t x f=>simp only [wT] at h;cases ht:tb t <;> rw [ht] at h <;> simp only [reduceCtorEq] at h ⊢;exact key h
 case field t x f=>simp only [sW] at h;cases ht:tb t <;> rw [ht] at h <;> simp only [reduceCtorEq] at h ⊢;exact key h
 case indexAddr t x i=>simp only [wV] at h;cases ht:tb t <;> rw [ht] at h <;> simp only [reduceCtorEq] at h ⊢;exact key h
 case index t x i=>simp only [Bn] at h;cases ht:tb t <;> rw [ht] at h <;> simp only [reduceCtorEq] at h ⊢;exact key h
 case extract=>exact key h
 all_goals (simp only [an,bg,ba] at h;exact h)
inductive Act1 where
 | plain (r:R1)
 | call (g:FuncId) (args:List V)
def zJ (tb:Tbl) (N m:Nat) (H:aj) (ev:Operand→V) (c:Call):Act1:=match c.callee with
 | .value f=>match ev f with
  | .fn g caps=>bif bf caps then .call g (c.args.toList.map ev++caps) else .plain none
  | _=> .plain none
 | _=> .plain (an ⟨tb,fun _=>none,1,N⟩ m H ev (.call c))
def evA (tb:Tbl) (N m:Nat) (H:aj) (ev:Operand→V) (op:Op):Act1:=match op with
 | .call c=>zJ tb N m H ev c
 | .store t a x=> .plain (wX tb H ev t a x)
 | .move x=> .plain (qU ev x)
 | .assign x=> .plain (qU ev x)
 | .pick c a b=> .plain (DP ev c a b)
 | .alloc t=> .plain (wR tb m t)
 | .box _ x=> .plain (FD m ev x)
 | .build t parts=> .plain (wS tb ev t parts)
 | .buildSlice t n parts=> .plain (jm tb m H ev t n parts)
 | .load t a=> .plain (Bo tb H ev t a)
 | .nilCheck x=> .plain (GI ev x)
 | .binOp op t x y _=> .plain (FC tb ev op t x y)
 | .unOp op _ x=> .plain (rUn ev op x)
 | .convert s d x=> .plain (Bl tb m ev s d x)
 | .makeFunc fn first caps=> .plain (Bm ev fn first caps)
 | .makeSlice t l c=> .plain (Bp tb m H ev t l c)
 | .slice t x lo hi mx=> .plain (wW tb H ev t x lo hi mx)
 | .fieldAddr t x f=> .plain (wT tb ev t x f)
 | .field t x f=> .plain (sW tb ev t x f)
 | .indexAddr t x i=> .plain (wV tb H ev t x i)
 | .index t x i=> .plain (Bn tb ev t x i)
 | .extract t i=> .plain (vi ev t i)
 | op=> .plain (an ⟨tb,fun _=>none,1,N⟩ m H ev op)
theorem yH (tb:Tbl) (N m:Nat) (H:aj) (ev:Operand→V) (op:Op) {q:List Ob×V×List (Nat×Blk)} (h:evA tb N m H ev op = .plain (some q)):an ⟨tb,fun _=>none,1,N⟩ m H ev op=some q:=by
 cases op
 case call c=>
  simp only [evA,zJ] at h
  split at h
  ·split at h
   ·rename_i caps _
    cases hb:bf caps with
    | true=>rw [hb] at h;cases h
    | false=>rw [hb] at h;cases h
   ·cases h
  ·exact Act1.plain.inj h
 all_goals (exact mc tb N m H ev _ (Act1.plain.inj h))
theorem zW (tb:Tbl) (N m:Nat) (H:aj) (ev:Operand→V) (op:Op) {g:FuncId} {args:List V} (h:evA tb N m H ev op = .call g args) :∃ c f caps,op = .call c∧c.callee = .value f∧ev f = .fn g caps∧args=c.args.toList.map ev++caps∧bf caps=true:=by
 cases op
 case call c=>
  simp only [evA,zJ] at h
  split at h
  ·rename_i f hf
   split at h
   ·rename_i g' caps he
    cases hb:bf caps with
    | false=>rw [hb] at h;cases h
    | true=>
     rw [hb] at h
     cases h
     exact ⟨c,f,caps,rfl,hf,he,rfl,hb⟩
   ·cases h
  ·cases h
 all_goals (cases h)
def DL (ps:List Ob):Bool:=List.casesOn (motive:=fun _=>Bool) ps true fun _ _=>ps.all Ob.chk
def zQ (N:Nat) (ops:List Oper):Bool:=ops.all fun o=>dstIn N o.dst
end Go.Mir
namespace Go.Mir
open Go.RowKit
variable {P:Program}
inductive DoesV (C:Cfg) (alt:Option (Nat×(Blk→Bool))) (all:List Oper) (tm:List (Nat×V)) (H:aj) (m:Nat) (o:Oper):Rec→Prop
 | old {r:Rec}:Does C true all tm H m o r→DoesV C alt all tm H m o r
 | dir {ps:List Ob} {v v':V} {dh:List (Nat×Blk)} {R:List Nat}:dstIn C.N o.dst=true→dB all tm o=some true→an C m H (aD (ae all o) tm) o.op=some (ps,v,dh)→
   (∀ H2:aj,(∀ h∈R,H2 h=H h)→(∀ h0 okB,alt=some (h0,okB)→H2 h0=H h0∨∃ b,H2 h0=some b∧okB b=true)→an C m H2 (aD (ae all o) tm) o.op=an C m H (aD (ae all o) tm) o.op)→(∀ p∈ps,p.holds)→
   (v'=v∨∃ b,v = .bool b∧v' = .kb b)→DoesV C alt all tm H m o ⟨o.dst,v',dh,R,ae all o⟩
theorem DoesV.dstIn {C:Cfg} {alt:Option (Nat×(Blk→Bool))} {all:List Oper} {tm:List (Nat×V)} {H:aj} {m:Nat} {o:Oper} {r:Rec} (h:DoesV C alt all tm H m o r):dstIn C.N o.dst=true∧r.dst=o.dst∧r.rs=ae all o:=by
 cases h with
 | old h=>exact h.dstIn
 | dir h _ _ _ _ _=>exact ⟨h,rfl,rfl⟩
inductive RunV (Cf:Nat→Cfg) (lo:Nat→Nat) (al:Nat→Option (Nat×(Blk→Bool))) (all:List Oper) (st:St):Nat→List Oper→Dl→List Rec→Dl→List Rec→Prop
 | nil {i:Nat} {d:Dl} {recs:List Rec}:RunV Cf lo al all st i [] d recs d recs
 | cons {i:Nat} {o:Oper} {rest:List Oper} {d:Dl} {recs:List Rec} {r:Rec} {df:Dl} {rf:List Rec}:DoesV (Cf i) (al i) all (d.tm++st.tm) (ah st.H d.hp) (lo i) o r→
   RunV Cf lo al all st (i+1) rest ⟨bm r.dst r.v++d.tm,r.dh++d.hp⟩ (recs++[r]) df rf→RunV Cf lo al all st i (o::rest) d recs df rf
theorem qW {Cf:Nat→Cfg} {lo:Nat→Nat} {al:Nat→Option (Nat×(Blk→Bool))} {all:List Oper} {st:St} :∀ (rest:List Oper) (i:Nat) (d:Dl) (recs:List Rec) (df:Dl) (rf:List Rec),RunV Cf lo al all st i rest d recs df rf→recs.length=i→
  find (d.tm++st.tm) =(recs.map cS).foldl ck (find st.tm)→ah st.H d.hp =(recs.map Rec.dh).foldl ck st.H→
  (∃ more,rf=recs++more∧more.length=rest.length)∧find (df.tm++st.tm) =(rf.map cS).foldl ck (find st.tm)∧ah st.H df.hp =(rf.map Rec.dh).foldl ck st.H∧
  ∀ j o,rest[j]?=some o→∃ r tm H,rf[i+j]?=some r∧DoesV (Cf (i+j)) (al (i+j)) all tm H (lo (i+j)) o r∧find tm =((rf.take (i+j)).map cS).foldl ck (find st.tm)∧H =((rf.take (i+j)).map Rec.dh).foldl ck st.H
 | [],i,d,recs,df,rf,hr,hl,h1,h2=>by
  cases hr
  exact ⟨⟨[],by simp,rfl⟩,h1,h2,fun j o h=>by simp at h⟩
 | o::rest,i,d,recs,df,rf,hr,hl,h1,h2=>by
  cases hr with
  | @cons _ _ _ _ _ r _ _ hdo hrun=>
   obtain ⟨⟨more,e1,e2⟩,g1,g2,g3⟩:=qW rest (i+1) _ _ _ _ hrun (by simp [hl])
    (by rw [List.append_assoc,ql,h1];simp [cS]) (by rw [bc,h2];simp [jE])
   refine ⟨⟨r::more,by rw [e1];simp,by simp [e2]⟩,g1,g2,fun j o' hj=>?_⟩
   cases j with
   | zero=>
    simp only [List.getElem?_cons_zero,Option.some.injEq] at hj
    subst hj
    have et:rf.take i=recs:=by rw [e1,List.append_assoc,List.take_append_of_le_length (by omega),List.take_of_length_le (by omega)]
    refine ⟨r,_,_,?_,hdo,?_,?_⟩
    ·rw [e1,Nat.add_zero,List.append_assoc,List.getElem?_append_right (by omega)]
     simp [hl]
    ·rw [Nat.add_zero,et];exact h1
    ·rw [Nat.add_zero,et];exact h2
   | succ j=>
    obtain ⟨r',tm,H,k1,k2,k3,k4⟩:=g3 j o' (by simpa using hj)
    rw [show i+1+j=i +(j+1) by omega] at k1 k2 k3 k4
    exact ⟨r',tm,H,k1,k2,k3,k4⟩
structure InvV (Cf:Nat→Cfg) (lo:Nat→Nat) (N:Nat) (B:Base) (E0:Env) (st:St) (rf:List Rec) (L:Nat→Bool) (a:Act) (w:World):Prop where
 ex :∃ E,HRel B E∧E.w=w∧Ext E0 E∧E.H=aZ L st.H 0 (rf.map Rec.dh)∧(∀ n,E.U n→E0.U n∨∃ i,i<rf.length∧L i=true∧lo i≤n∧n<lo i +(Cf i).K)∧cR E (aZ L (find st.tm) 0 (rf.map cS)) a
 size:a.tmps.size=N
 defers:a.defers=[]
theorem vt {L L':Nat→Bool} {k:Nat} {okB:Blk→Bool} :∀ (us:List (List (Nat×Blk))) (i:Nat) (f f':Nat→Option Blk),(f k=f' k∨∃ b,f k=some b∧okB b=true)→
  (∀ j u,us[j]?=some u→find u k≠none→L (i+j)=L' (i+j)∨(L' (i+j)=false∧∀ b,find u k=some b→okB b=true))→aZ L f i us k=aZ L' f' i us k∨∃ b,aZ L f i us k=some b∧okB b=true
 | [],_,_,_,h,_=>h
 | u::us,i,f,f',h,hu=>by
  unfold aZ
  refine vt us (i+1) _ _ ?_ (fun j u' hj hf=>by
   have:=hu (j+1) u' (by simpa using hj) hf
   rwa [show i +(j+1)=i+1+j by omega] at this)
  cases hf:find u k with
  | none=>
   have e1 :(if L i=true then ck f u else f) k=f k:=by split <;> simp [fi hf]
   have e2 :(if L' i=true then ck f' u else f') k=f' k:=by split <;> simp [fi hf]
   rw [e1,e2]
   exact h
  | some v=>
   rcases hu 0 u (by simp) (by rw [hf];simp) with h1 |⟨h1,h2⟩
   ·simp only [Nat.add_zero] at h1
    rw [h1]
    split
    ·left;rw [dQ hf,dQ hf]
    ·exact h
   ·simp only [Nat.add_zero] at h1
    rw [h1]
    simp only [Bool.false_eq_true,if_false]
    split
    ·right;exact ⟨v,dQ hf,h2 v hf⟩
    ·exact h
theorem yO {Cf:Nat→Cfg} {lo:Nat→Nat} {al:Nat→Option (Nat×(Blk→Bool))} {N:Nat} (hC :∀ i,CfgOK P (Cf i)) (hN :∀ i,(Cf i).N=N) {B:Base} {E0:Env} {all:List Oper} {st:St} {rf:List Rec} (hfr0 :∀ i,i<rf.length→∀ n,lo i≤n→n<lo i +(Cf i).K→¬ E0.U n) (hlo :∀ i j,i<j→j<rf.length→lo i +(Cf i).K≤lo j) {L L':Nat→Bool} {i:Nat} {o:Oper} {r:Rec} (ho:all[i]?=some o) (hr:rf[i]?=some r) (hLi:L i=false) (hL' :∀ j,L' j=if j=i then true else L j)
  {tm:List (Nat×V)} {H:aj} (hdo:DoesV (Cf i) (al i) all tm H (lo i) o r) (htm:find tm=aZ (fun j=>Nat.blt j i) (find st.tm) 0 (rf.map cS)) (hH:H=aZ (fun j=>Nat.blt j i) st.H 0 (rf.map Rec.dh))
  (hcomm :∀ j s,rf[j]?=some s→(j<i∧L j=false)∨(i<j∧L j=true)→Comm r s) (halt :∀ h0 okB,al i=some (h0,okB)→∀ j s b,rf[j]?=some s→find s.dh h0=some b→(j<i→L j=true)∧(i<j→L j=true→okB b=true)) {Q:Exit→Act→World→Prop} {a:Act} {w:World} (hI:InvV Cf lo N B E0 st rf L a w) {K:Act→World→Prop} (hK :∀ a w,InvV Cf lo N B E0 st rf L' a w→K a w) :
  wpOp P all.toArray Q i K a w:=by
 obtain ⟨⟨E,hE,rfl,hX,hEH,hU,hT⟩,hsz,hdf⟩:=hI
 obtain ⟨hd,he,hrs⟩:=hdo.dstIn
 have hiL:i<rf.length:=(List.getElem?_eq_some_iff.1 hr).1
 have hLsel :∀ {α:Type} (us:List (List (Nat×α))) (f:Nat→Option α) (k:Nat) (g:Rec→List (Nat×α)),us=rf.map g→(∀ j s,rf[j]?=some s→find (g s) k≠none→j≠i→Comm r s→False)→aZ L f 0 us k=aZ (fun j=>Nat.blt j i) f 0 us k:=by
  intro α us f k g hus hno
  refine dV us 0 f f rfl (fun j u hj hu=>?_)
  rw [Nat.zero_add]
  subst hus
  rw [List.getElem?_map] at hj
  cases hs:rf[j]? with
  | none=>rw [hs] at hj;simp at hj
  | some s=>
   rw [hs] at hj
   simp only [Option.map_some,Option.some.injEq] at hj
   subst hj
   by_cases hji:j=i
   ·subst hji
    rw [hLi]
    cases hb:Nat.blt j j with
    | false=>rfl
    | true=>rw [Nat.blt_eq] at hb;omega
   ·rcases Nat.lt_or_gt_of_ne hji with hlt|hgt
    ·have hb:Nat.blt j i=true:=by rw [Nat.blt_eq];exact hlt
     rw [hb]
     cases hLj:L j with
     | true=>rfl
     | false=>exact (hno j s hs hu hji (hcomm j s hs (.inl ⟨hlt,hLj⟩))).elim
    ·have hb:Nat.blt j i=false:=by cases hb:Nat.blt j i with|false=>rfl|true=>rw [Nat.blt_eq] at hb;omega
     rw [hb]
     cases hLj:L j with
     | false=>rfl
     | true=>exact (hno j s hs hu hji (hcomm j s hs (.inr ⟨hgt,hLj⟩))).elim
 have hslot :∀ s∈ae all o,aZ L (find st.tm) 0 (rf.map cS) s=find tm s:=fun s hs=>by
  rw [htm]
  refine hLsel _ _ s cS rfl (fun j s' hs' hne hji hc=>?_)
  exact hc.sd s (gL hne) (by rw [hrs];exact hs)
 have hlook :∀ s∈ae all o,aa E (bL tm s) (a.tmps.getD s undef):=fun s hs=>by
  unfold bL
  cases hf:find tm s with
  | none=>simp [aa]
  | some v=>exact hT s v (by rw [hslot s hs];exact hf)
 have hL0 :∀ {α:Type} (us:List (List (Nat×α))) (f:Nat→Option α) (g:Rec→List (Nat×α)),us=rf.map g→(∀ j s,i<j→rf[j]?=some s→Comm r s→∀ k,find (g r) k≠none→find (g s) k=none)→aZ L' f 0 us=ck (aZ L f 0 us) (g r):=by
  intro α us f g hus hno
  subst hus
  refine vr (rf.map g) f i (g r) (by rw [List.getElem?_map,hr];rfl) hL' (fun j u hj hu hLj k hk=>?_)
  rw [List.getElem?_map] at hu
  cases hs:rf[j]? with
  | none=>rw [hs] at hu;simp at hu
  | some s=>
   rw [hs] at hu
   simp only [Option.map_some,Option.some.injEq] at hu
   subst hu
   exact hno j s hj hs (hcomm j s hs (.inr ⟨hj,hLj⟩)) k hk
 have none_of :∀ {α:Type} {l:List (Nat×α)} {k:Nat},(k∈l.map (·.1)→False)→find l k=none:=fun {α l k} h=>by
  cases hf:find l k with
  | none=>rfl
  | some v=>exact (h (cN (by rw [hf];simp))).elim
 have hT':aZ L' (find st.tm) 0 (rf.map cS)=ck (aZ L (find st.tm) 0 (rf.map cS)) (cS r):=hL0 _ _ cS rfl (fun j s _ _ hc k hk=>by
  cases hf:find (cS s) k with
  | none=>rfl
  | some v=>exact (hc.d k (gL hk) (gL (by rw [hf];simp))).elim)
 have hH':aZ L' st.H 0 (rf.map Rec.dh)=ck (aZ L st.H 0 (rf.map Rec.dh)) r.dh:=hL0 _ _ Rec.dh rfl (fun j s _ _ hc k hk=>none_of fun hm=>hc.k k (cN hk) hm)
 have after :∀ (E':Env) (v':Value),GoodK B E (lo i) (Cf i).K r.dh E'.w E'→aa E' r.v v'→InvV Cf lo N B E0 st rf L' (a.put o.dst v') E'.w:=fun E' v' G hv=>by
  refine ⟨⟨E',G.rel,rfl,hX.trans G.ext,by rw [G.h,hH',hEH,jE],fun n hn=>?_,?_⟩,by rw [jl];exact hsz,by rw [fC];exact hdf⟩
  ·rcases G.u n hn with h|h
   ·rcases hU n h with h1 |⟨j,h1,h2,h3⟩
    ·exact .inl h1
    ·refine .inr ⟨j,h1,?_,h3⟩
     rw [hL']
     split
     ·rfl
     ·exact h2
   ·exact .inr ⟨i,hiL,by rw [hL',if_pos rfl],h.1,h.2⟩
  ·rw [hT']
   exact sU G.ext hT hsz (by rw [←hN i];exact hd) (v:=r.v) hv (fun s u hu=>by
    unfold ck cS at hu
    rw [he] at hu
    cases hf:find (bm o.dst r.v) s with
    | some x=>rw [hf] at hu;exact .inl hu
    | none=>rw [hf] at hu;exact .inr ⟨rfl,hu⟩)
 unfold wpOp
 simp only [List.getElem?_toArray,ho]
 have hfresh :∀ n,lo i≤n→n<lo i +(Cf i).K→¬ E.U n:=fun n h1 h2 hu=>by
  rcases hU n hu with h3 |⟨j,h3,h4,h5,h6⟩
  ·exact hfr0 i hiL n h1 h2 h3
  ·have hji:j≠i:=fun e=>by subst e;rw [hLi] at h4;cases h4
   rcases Nat.lt_or_gt_of_ne hji with hlt|hgt
   ·have:=hlo j i hlt hiL;omega
   ·have:=hlo i j hgt h3;omega
 cases hdo with
 | @dir ps v v' dh R _ hg hev hcg hps hv=>
  rw [bj hlook hg]
  simp only [if_true]
  left
  have hHR :∀ h∈R,E.H h=H h:=fun h hh=>by
   rw [hEH,hH]
   refine hLsel _ _ h Rec.dh rfl (fun j s hs hne hji hc=>?_)
   exact hc.sk h (cN hne) hh
  have hev2:=hcg E.H hHR (fun h0 okB hal=>by
   have hal:=halt h0 okB hal
   rw [hEH,hH]
   refine vt (rf.map Rec.dh) 0 st.H st.H (.inl rfl) (fun j u hj hu=>?_)
   rw [Nat.zero_add]
   rw [List.getElem?_map] at hj
   cases hs:rf[j]? with
   | none=>rw [hs] at hj;simp at hj
   | some s=>
    rw [hs] at hj
    simp only [Option.map_some,Option.some.injEq] at hj
    subst hj
    rcases Nat.lt_trichotomy j i with hlt|heq|hgt
    ·left
     obtain ⟨b,hb⟩ :∃ b,find s.dh h0=some b:=by
      cases hf:find s.dh h0 with
      | none=>exact absurd hf hu
      | some b=>exact ⟨b,rfl⟩
     rw [(hal j s b hs hb).1 hlt]
     exact (by rw [Nat.blt_eq];exact hlt:Nat.blt j i=true).symm
    ·left
     subst heq
     rw [hLi]
     cases hb:Nat.blt j j with
     | false=>rfl
     | true=>rw [Nat.blt_eq] at hb;omega
    ·have hbf:Nat.blt j i=false:=by cases hb:Nat.blt j i with|false=>rfl|true=>rw [Nat.blt_eq] at hb;omega
     cases hLj:L j with
     | false=>exact .inl hbf.symm
     | true=>exact .inr ⟨hbf,fun b hb=>(hal j s b hs hb).2 hgt hLj⟩)
  rw [hev] at hev2
  have hevm :∀ x,aa E (aD (ae all o) tm x) (a.eval x):=fun x=>by
   cases x with
   | tmp t=>
    simp only [aD]
    cases hm:memN (ae all o) t with
    | false=>simp [aa]
    | true=>exact hlook t (memN_iff.1 hm)
   | const v=>exact eA v
   | func f=>simp only [aD,aa,Act.eval];exact ⟨#[],rfl,by simp [ab]⟩
   | _=>simp [aD,aa]
  exact cp hE (hC i).tb (hC i).K (hC i).Γ hfresh hevm hev2 hps fun v'' E' G hv'=>by
   have hw:E'.w=E'.w:=rfl
   exact hK _ _ (after E' _ G (zl hv hv'))
 | old hdo=>
 cases hdo with
 | skip _ hg=>
  rw [bj hlook hg]
  simp only [Bool.false_eq_true,if_false]
  exact hK _ _ (after E undef ⟨hE,Ext.refl E,rfl,rfl,fun n h=> .inl h⟩ (by simp [aa,undef,ab]))
 | @dir ps v v' dh _ _ hg hdr hev hps hv=>
  rw [bj hlook hg]
  simp only [if_true]
  left
  have hev2:=qg (C:=Cf i) (m:=lo i) (H1:=E.H) (H2:=H) hdr fun k hk=>by
   rw [hEH,hH]
   refine hLsel _ _ k Rec.dh rfl (fun j s hs hne hji hc=>?_)
   exact hc.sk k (cN hne) hk
  rw [hev] at hev2
  have hevm :∀ x,aa E (aD (ae all o) tm x) (a.eval x):=fun x=>by
   cases x with
   | tmp t=>
    simp only [aD]
    cases hm:memN (ae all o) t with
    | false=>simp [aa]
    | true=>exact hlook t (memN_iff.1 hm)
   | const v=>exact eA v
   | func f=>simp only [aD,aa,Act.eval];exact ⟨#[],rfl,by simp [ab]⟩
   | _=>simp [aD,aa]
  exact cp hE (hC i).tb (hC i).K (hC i).Γ hfresh hevm hev2 hps fun v'' E' G hv'=>hK _ _ (after E' _ G (zl hv hv'))
 | @run ps v v' dh R _ hg hst hps hv=>
  rw [bj hlook hg]
  simp only [if_true]
  left
  simp only [jt] at hst
  split at hst
  case h_2=>cases hst
  rename_i ps' v2 dh' hev
  cases hfr:eY H (kg H 8 (o.op.operands.toList.flatMap fun x=>(aD (ae all o) tm x).hs) []) (lo i) (Cf i).K v2 dh' with
  | false=>rw [hfr] at hst;cases hst
  | true=>
   rw [hfr] at hst
   simp only [cond_true,Option.some.injEq,Prod.mk.injEq] at hst
   obtain ⟨rfl,rfl,rfl,hR⟩:=hst
   rw [hR] at hfr hev
   have hHR :∀ h∈R,E.H h=H h:=fun h hh=>by
    rw [hEH,hH]
    refine hLsel _ _ h Rec.dh rfl (fun j s hs hne hji hc=>?_)
    exact hc.sk h (cN hne) hh
   have hrest:restr H R=restr E.H R:=by
    funext h
    unfold restr
    cases hm:memN R h with
    | false=>rfl
    | true=>simp only [cond_true];exact (hHR h (memN_iff.1 hm)).symm
   simp only [eY,Bool.and_eq_true] at hfr
   obtain ⟨⟨f1,f2⟩,f3⟩:=hfr
   have fR :∀ h∈R,∃ b,H h=some b∧jV R (lo i) (Cf i).K b.hs=true:=fun h hh=>by
    have:=List.all_eq_true.1 f1 h hh
    split at this
    ·rename_i b hb;exact ⟨b,hb,this⟩
    ·cases this
   have hfresh :∀ n,lo i≤n→n<lo i +(Cf i).K→¬ E.U n:=fun n h1 h2 hu=>by
    rcases hU n hu with h3 |⟨j,h3,h4,h5,h6⟩
    ·exact hfr0 i hiL n h1 h2 h3
    ·have hji:j≠i:=fun e=>by subst e;rw [hLi] at h4;cases h4
     rcases Nat.lt_or_gt_of_ne hji with hlt|hgt
     ·have:=hlo j i hlt hiL;omega
     ·have:=hlo i j hgt h3;omega
   have hEs:=hE.restr R
   have Xs:=Ext.restr E R
   rw [hrest] at hev
   have hevm :∀ x,aa { E with H:=Mir.restr E.H R } (aD (ae all o) tm x) (a.eval x):=fun x=>by
    cases x with
    | tmp t=>
     simp only [aD]
     cases hm:memN (ae all o) t with
     | false=>simp [aa]
     | true=>exact aG Xs _ _ (hlook t (memN_iff.1 hm))
    | const v=>exact eA v
    | func f=>simp only [aD,aa,Act.eval];exact ⟨#[],rfl,by simp [ab]⟩
    | _=>simp [aD,aa]
   exact cp (E:={ E with H:=Mir.restr E.H R }) hEs (hC i).tb (hC i).K (hC i).Γ hfresh hevm hev hps fun v'' Es G hv'=>by
    obtain ⟨E',G',tr⟩:=DB hE hfresh G (fun h hh=>by obtain ⟨b,hb,_⟩:=fR h hh;exact ⟨b,by rw [hHR h hh];exact hb⟩)
     (fun h hh k hk x hx=>by
      obtain ⟨b,hb,hb2⟩:=fR h hh
      rw [hHR h hh,hb] at hk
      cases hk
      exact di hb2 x hx)
     (fun h k hk=>by
      have hq:=ag hk
      have:=List.all_eq_true.1 f2 _ hq
      simp only [Bool.and_eq_true] at this
      exact ⟨di this.1 h (by simp),di this.2⟩)
    have hw:E'.w=Es.w:=G'.w
    have hv2:aa E' v2 v'':=tr _ _ (di f3) hv'
    have:=hK _ _ (after E' _ (by rw [hw];exact G') (zl hv hv2))
    rw [hw] at this
    exact this
def AltOK (al:Nat→Option (Nat×(Blk→Bool))) (ms:List Nat) (rf:List Rec):Prop:=∀ i h0 okB,al i=some (h0,okB)→∀ j s b,rf[j]?=some s→find s.dh h0=some b→j≠i→
 (j<i→((ms[i]?).getD 0).testBit j=true)∧(i<j→((ms[j]?).getD 0).testBit i=true∨okB b=true)
theorem AltOK.none {ms:List Nat} {rf:List Rec}:AltOK (fun _=>Option.none) ms rf:=fun i h0 okB h=>by cases h
theorem yB {Cf:Nat→Cfg} {lo:Nat→Nat} {al:Nat→Option (Nat×(Blk→Bool))} {N:Nat} (hC :∀ i,CfgOK P (Cf i)) (hN :∀ i,(Cf i).N=N) {B:Base} {E0:Env} {all:List Oper} {st:St} {df:Dl} {rf:List Rec} (hrun:RunV Cf lo al all st 0 all ⟨[],[]⟩ [] df rf) (hE:bV 0 all=true) (hck:cX (bd all []) 0 rf=true) (hal:AltOK al (bd all []) rf) {Q:Exit→Act→World→Prop}
  (hfr0 :∀ i,i<all.length→∀ n,lo i≤n→n<lo i +(Cf i).K→¬ E0.U n) (hlo :∀ i j,i<j→j<all.length→lo i +(Cf i).K≤lo j)
  (hQ :∀ E a,HRel B E→Ext E0 E→E.H=ah st.H df.hp→(∀ n,E.U n→E0.U n∨∃ i,i<all.length∧lo i≤n∧n<lo i +(Cf i).K)→cR E (find (df.tm++st.tm)) a→a.tmps.size=N→a.defers=[]→Q .normal a E.w) :
  ∀ (fuel:Nat) (listed:Array Bool) (a:Act) (w:World),listed.size=all.length→unl all.length listed=fuel→
   (∀ j oj,all[j]?=some oj→listed.getD j false=true→∀ e∈oj.after,Region.binds .any e=true→listed.getD e.on false=true)→
   InvV Cf lo N B E0 st rf (fun i=>listed.getD i false) a w→wpAny P .any all.toArray Q fuel listed a w:=by
 obtain ⟨⟨more,e1,e2⟩,g1,g2,g3⟩:=qW all 0 ⟨[],[]⟩ [] df rf hrun rfl rfl rfl
 have hlen:rf.length=all.length:=by rw [e1];simpa using e2
 have full :∀ (listed:Array Bool),listed.size=all.length→Region.ready .any all.toArray listed=[]→∀ i,i<all.length→listed.getD i false=true:=by
  intro listed hsz hrd i
  induction i using Nat.strongRecOn with
  | _ i ih=>
   intro hi
   cases hb:listed.getD i false with
   | true=>rfl
   | false=>
    have hun:listed.getD i true=false:=by
     have:i<listed.size:=by omega
     simp [this] at hb ⊢
     exact hb
    have hoi:all[i]?=some all[i]:=List.getElem?_eq_getElem hi
    have:i∈Region.ready .any all.toArray listed:=mem_ready.2 ⟨hun,all[i],by simp,fun e he hbd=>by
     have:=dw all 0 hE i _ hoi e he hbd
     exact ih e.on (by omega) (by omega)⟩
    rw [hrd] at this
    cases this
 have close :∀ (listed:Array Bool) (a:Act) (w:World),listed.size=all.length→(∀ i,i<all.length→listed.getD i false=true)→InvV Cf lo N B E0 st rf (fun i=>listed.getD i false) a w→Q .normal a w:=by
  intro listed a w hsz hall hI
  obtain ⟨⟨E,hE',rfl,hX,hEH,hU,hT⟩,hs,hd⟩:=hI
  have hsel :∀ {α:Type} (us:List (List (Nat×α))) (f:Nat→Option α),us.length=all.length→aZ (fun i=>listed.getD i false) f 0 us=us.foldl ck f:=fun us f hl=>by
   have h1:=ij us f 0 us.length
   rw [List.take_of_length_le (Nat.le_refl _)] at h1
   rw [←h1]
   funext k
   refine dV us 0 f f rfl (fun j u hj _=>?_)
   have hjl:j<us.length:=(List.getElem?_eq_some_iff.1 hj).1
   rw [Nat.zero_add,hall j (by omega)]
   exact (by rw [Nat.blt_eq];omega:Nat.blt j (0+us.length)=true).symm
  refine hQ E a hE' hX ?_ (fun n hn=>?_) (fun s v hv=>?_) hs hd
  ·rw [hEH,hsel _ _ (by simp [hlen]),g2]
  ·rcases hU n hn with h |⟨i,h1,_,h3,h4⟩
   ·exact .inl h
   ·exact .inr ⟨i,by omega,h3,h4⟩
  ·refine hT s v ?_
   rw [hsel _ _ (by simp [hlen]),←g1]
   exact hv
 intro fuel
 induction fuel with
 | zero=>
  intro listed a w hsz hun _ hI
  have hall :∀ i,i<all.length→listed.getD i false=true:=fun i hi=>by
   have h0 :(List.range all.length).filter (fun i=>!listed.getD i true)=[]:=List.eq_nil_of_length_eq_zero hun
   have:=List.filter_eq_nil_iff.1 h0 i (List.mem_range.2 hi)
   have hi':i<listed.size:=by omega
   simp [hi'] at this ⊢
   exact this
  refine ⟨?_,close listed a w hsz hall hI⟩
  cases hr:Region.ready .any all.toArray listed with
  | nil=>rfl
  | cons i l=>
   have hm:i∈Region.ready .any all.toArray listed:=by rw [hr];exact List.mem_cons_self
   obtain ⟨h1,o,h2,_⟩:=mem_ready.1 hm
   have hi:i<all.length:=by
    have:=(Array.getElem?_eq_some_iff.1 h2).1
    simpa using this
   have h3:=hall i hi
   have hi':i<listed.size:=by omega
   simp [hi'] at h1 h3
   rw [h1] at h3;cases h3
 | succ fuel ih=>
  intro listed a w hsz hun hclosed hI
  refine ⟨fun hr=>close listed a w hsz (full listed hsz hr) hI,fun i hi=>?_⟩
  obtain ⟨h1,o,h2,hdir⟩:=mem_ready.1 hi
  have ho:all[i]?=some o:=by simpa using h2
  have hil:i<all.length:=(List.getElem?_eq_some_iff.1 ho).1
  have his:i<listed.size:=by omega
  have hLi:listed.getD i false=false:=by simp [his] at h1 ⊢;exact h1
  obtain ⟨r,tm,H,k1,k2,k3,k4⟩:=g3 i o ho
  simp only [Nat.zero_add] at k1 k2 k3 k4
  have hget :∀ j,(listed.setIfInBounds i true).getD j false=if j=i then true else listed.getD j false:=fun j=>by
   by_cases e:j=i
   ·subst e;simp [his]
   ·simp [e,Array.getElem?_setIfInBounds_ne (Ne.symm e),Array.getD_eq_getD_getElem?]
  have hgetT :∀ j,j≠i→(listed.setIfInBounds i true).getD j true=listed.getD j true:=fun j e=>by
   simp [Array.getElem?_setIfInBounds_ne (Ne.symm e),Array.getD_eq_getD_getElem?]
  refine yO hC hN (E0:=E0) (by rw [hlen];exact hfr0) (by rw [hlen];exact hlo) (L:=fun i=>listed.getD i false) (L':=fun j=>(listed.setIfInBounds i true).getD j false) ho k1 hLi hget k2 ?_ ?_ (fun j s hs hor=>?_) (fun h0 okB ha j s b hs hb=>⟨fun hlt=>?_,fun hgt hLj=>?_⟩) hI (fun a w hI'=>ih _ a w (by simpa using hsz) ?_ ?_ hI')
  ·rw [k3]
   have:=ij (rf.map cS) (find st.tm) 0 i
   rw [←List.map_take,] at this
   simpa using this.symm
  ·rw [k4]
   have:=ij (rf.map Rec.dh) st.H 0 i
   rw [←List.map_take] at this
   simpa using this.symm
  ·rcases hor with ⟨hlt,hLj⟩ |⟨hgt,hLj⟩
   ·rcases eu rf 0 hck j i s r hlt hs k1 with h|h
    ·simp only [Nat.zero_add] at h
     have:=bT hE hclosed i i (Nat.le_refl _) o ho hdir j h
     rw [this] at hLj;cases hLj
    ·exact h.symm
   ·rcases eu rf 0 hck i j r s hgt k1 hs with h|h
    ·simp only [Nat.zero_add] at h
     have hjl:j<all.length:=by rw [←hlen];exact (List.getElem?_eq_some_iff.1 hs).1
     have hoj:all[j]?=some all[j]:=List.getElem?_eq_getElem hjl
     have:=bT hE hclosed j j (Nat.le_refl _) _ hoj (hclosed j _ hoj hLj) i h
     rw [this] at hLi;cases hLi
    ·exact h
  ·exact bT hE hclosed i i (Nat.le_refl _) o ho hdir j ((hal i h0 okB ha j s b hs hb (by omega)).1 hlt)
  ·rcases (hal i h0 okB ha j s b hs hb (by omega)).2 hgt with h|h
   ·have hjl:j<all.length:=by rw [←hlen];exact (List.getElem?_eq_some_iff.1 hs).1
    have hoj:all[j]?=some all[j]:=List.getElem?_eq_getElem hjl
    have:=bT hE hclosed j j (Nat.le_refl _) _ hoj (hclosed j _ hoj hLj) i h
    rw [this] at hLi;cases hLi
   ·exact h
  ·have:=kE (p:=fun j=>!listed.getD j true) (q:=fun j=>!(listed.setIfInBounds i true).getD j true) (i:=i) (by simp [h1]) (by simp [his]) (fun j e=>by simp [hgetT j e]) (List.range all.length) List.nodup_range (List.mem_range.2 hil)
   unfold unl at hun ⊢
   omega
  ·intro j oj hj hlj e he hb
   rw [hget] at hlj ⊢
   by_cases e1:e.on=i
   ·rw [if_pos e1]
   ·rw [if_neg e1]
    by_cases e2:j=i
    ·subst e2
     rw [ho] at hj;cases hj
     exact hdir e he hb
    ·rw [if_neg e2] at hlj
     exact hclosed j oj hj hlj e he hb
theorem yC {Cf:Nat→Cfg} {lo:Nat→Nat} {al:Nat→Option (Nat×(Blk→Bool))} {N:Nat} (hC :∀ i,CfgOK P (Cf i)) (hN :∀ i,(Cf i).N=N) (hP:P.follows .mixedOrders=true) {B:Base} {all:List Oper} {st:St} {df:Dl} {rf:List Rec} (hrun:RunV Cf lo al all st 0 all ⟨[],[]⟩ [] df rf) (hE:bV 0 all=true) (hck:cX (bd all []) 0 rf=true) (hal:AltOK al (bd all []) rf) {Q:Exit→Act→World→Prop}
  {E:Env} (hE':HRel B E) (hH:E.H=st.H) {a:Act} (hT:cR E (find st.tm) a) (hsz:a.tmps.size=N) (hdf:a.defers=[])
  (hfr0 :∀ i,i<all.length→∀ n,lo i≤n→n<lo i +(Cf i).K→¬ E.U n) (hlo :∀ i j,i<j→j<all.length→lo i +(Cf i).K≤lo j)
  (hQ :∀ E' a,HRel B E'→Ext E E'→E'.H=ah st.H df.hp→(∀ n,E'.U n→E.U n∨∃ i,i<all.length∧lo i≤n∧n<lo i +(Cf i).K)→cR E' (find (df.tm++st.tm)) a→a.tmps.size=N→a.defers=[]→Q .normal a E'.w) (id:Nat) :
  (Code.region id all.toArray true).wp P Q a E.w:=by
 refine wp_region_any hP ?_
 obtain ⟨R,X⟩:=q7 hE' { E.w with drawn:=E.w.drawn+1 } rfl rfl rfl rfl
 have hfalse :∀ i,(Array.replicate all.toArray.size false).getD i false=false:=fun i=>by
  rcases Nat.lt_or_ge i all.length with h|h
  ·simp [h]
  ·simp [h]
 have hno :∀ {α:Type} (us:List (List (Nat×α))) (f:Nat→Option α) (i:Nat),aZ (fun i=>(Array.replicate all.toArray.size false).getD i false) f i us=f:=by
  intro α us
  induction us with
  | nil=>intro f i;rfl
  | cons u us ih=>intro f i;unfold aZ;rw [hfalse];simp only [Bool.false_eq_true,if_false];exact ih f _
 refine yB hC hN (E0:={ E with w:={ E.w with drawn:=E.w.drawn+1 } }) hrun hE hck hal hfr0 hlo (fun E1 a1 r1 x1 h1 u1 t1 s1 d1=>hQ E1 a1 r1 (X.trans x1) h1 u1 t1 s1 d1) _ _ a _ (by simp) ?_ (fun j oj hj hl=>by rw [hfalse] at hl;cases hl) ⟨⟨_,R,rfl,Ext.refl _,?_,fun n hn=> .inl hn,fun s v hv=>?_⟩,hsz,hdf⟩
 ·unfold unl
  have :(List.range all.length).filter (fun i=>!(Array.replicate all.toArray.size false).getD i true)=List.range all.length:=List.filter_eq_self.2 fun i hi=>by
   have:=List.mem_range.1 hi
   simp [this]
  rw [this]
  simp
 ·rw [hno _ _ _];exact hH
 ·rw [hno] at hv
  exact aG X _ _ (hT s v hv)
end Go.Mir
namespace Go.Mir
open Go.RowKit
variable {P:Program}
theorem ir {E:Env} {v:V} {u:Value} (h:aa E v u):aa E (gh v) u:=by
 cases v <;> first|exact h|simpa [gh,aa] using h
theorem Cg {a:Act} {w:World} {c:Call} {o:Oper} (ho:o.op = .call c) {f:Operand} (hf:c.callee = .value f) {g:FuncId} {l:Array Value} (hfe:a.eval f = .func (.func g) #[] l)
  (hfn :∃ fn,P.funcs[g]?=some fn∧fn.body.isSome=true∧(fn.name == "runtime.NumGoroutine")=false) {R:Ending→World→Prop} (hcalls:Calls P g (c.args.toList.map a.eval++l.toList).toArray w R)
  {next:Act→World→Prop} {Q:Exit→Act→World→Prop} (hn :∀ e w',R e w'→∃ v',e = .returned v'∧next (a.put o.dst v') w'):o.wp P a w next Q:=by
 obtain ⟨fn,h1,h2,h3⟩:=hfn
 have hb :¬ fn.body=none:=by cases hb:fn.body with|none=>rw [hb] at h2;cases h2|some _=>simp
 have h4 :¬ fn.name = "runtime.NumGoroutine":=by simpa using h3
 have hrun :(execOp a.eval o).run P w = .ok (.enter g (c.args.toList.map a.eval++l.toList).toArray) w:=by
  have e :(c.args.toList.map a.eval++l.toList).toArray=#[]++c.args.map a.eval++l:=by
   apply Array.ext'
   simp
  rw [e]
  simp [execOp,ho,resolve,hf,Deferred.ofValue,hfe,invoke,callFunc,h1,h4,hb]
 unfold Oper.wp
 rw [hrun]
 simp only [Oper.upon]
 refine hcalls.mono fun e w' hh=>?_
 obtain ⟨v',rfl,h⟩:=hn e w' hh
 exact h
structure RR (B:Base) (E0:Env) (n0 N:Nat) (s:RS) (E:Env) (a:Act):Prop where
 rel:HRel B E
 ext:Ext E0 E
 h:E.H=s.hp.get
 u :∀ n,E.U n→E0.U n∨(n0≤n∧n<s.nx)
 le:n0≤s.nx
 tm:cR E s.tm.get a
 size:a.tmps.size=N
 defers:a.defers=[]
structure Came (B:Base) (E:Env) (hp':aj) (nx nx':Nat) (v:V) (v':Value) (w':World) (E':Env):Prop where
 rel:HRel B E'
 w:E'.w=w'
 h:E'.H=hp'
 ext:Ext E E'
 u :∀ n,E'.U n→E.U n∨(nx≤n∧n<nx')
 v:aa E' v v'
variable {tb:Tbl} {N:Nat} {call:zn} {all:List Oper} {B:Base} {E0:Env} {n0:Nat}
theorem RR.put {s:RS} {E:Env} {a:Act} (hR:RR B E0 n0 N s E a) {E':Env} {hp:Tri Blk} {nx:Nat} (hrel:HRel B E') (hext:Ext E E') (hh:E'.H=hp.get) (hu :∀ n,E'.U n→E.U n∨(s.nx≤n∧n<nx)) (hle:s.nx≤nx)
  {d:Option Nat} (hd:dstIn N d=true) {v:V} {v':Value} (hv:aa E' v v') {tm:Tri V} (htm :∀ k,tm.get k=match find (bm d (gh v)) k with|some u=>some u|none=>s.tm.get k):RR B E0 n0 N ⟨tm,hp,nx⟩ E' (a.put d v'):=by
 have hle0:=hR.le
 refine ⟨hrel,hR.ext.trans hext,hh,fun n hn=>?_,Nat.le_trans hle0 hle,sU hext hR.tm hR.size hd (ir hv) (fun k u hk=>?_),by rw [jl];exact hR.size,by rw [fC];exact hR.defers⟩
 ·show E0.U n∨(n0≤n∧n<nx)
  rcases hu n hn with h|h
  ·rcases hR.u n h with h|h
   ·exact .inl h
   ·exact .inr ⟨h.1,by omega⟩
  ·exact .inr ⟨by omega,h.2⟩
 ·rw [htm] at hk
  cases hf:find (bm d (gh v)) k with
  | some x=>rw [hf] at hk;exact .inl hk
  | none=>rw [hf] at hk;exact .inr ⟨rfl,hk⟩
end Go.Mir
namespace Go.Mir
open Go.RowKit
variable {P:Program}
theorem sf {α:Type} {l:List (Nat×α)} {k:Nat} (h:memN (l.map (·.1)) k=true):find l k≠none:=by
 induction l with
 | nil=>simp [memN] at h
 | cons q l ih=>
  obtain ⟨a,b⟩:=q
  simp only [List.map_cons,memN,Bool.or_eq_true] at h
  simp only [find]
  cases hb:Nat.beq a k with
  | true=>simp
  | false=>
   simp only [cond_false]
   refine ih ?_
   rcases h with h|h
   ·rw [hb] at h;cases h
   ·exact h
def Chain:Nat→List (Nat×Cfg)→Nat→Prop
 | n,[],e=>n=e
 | n,q::r,e=>q.1=n∧∃ n2,n+q.2.K≤n2∧Chain n2 r e
theorem Chain.le :∀ {n:Nat} {l:List (Nat×Cfg)} {e:Nat},Chain n l e→n≤e
 | n,[],e,h=>Nat.le_of_eq h
 | n,q::r,e,⟨_,n2,h1,h2⟩=>by have:=h2.le;omega
theorem Chain.at :∀ {n:Nat} {l:List (Nat×Cfg)} {e:Nat},Chain n l e→∀ (j:Nat) (q:Nat×Cfg),l[j]?=some q→n≤q.1∧q.1+q.2.K≤e
 | n,[],e,_,j,q,hq=>by simp at hq
 | n,p::r,e,⟨h0,n2,h1,h2⟩,j,q,hq=>by
  have hle:=h2.le
  cases j with
  | zero=>
   simp only [List.getElem?_cons_zero,Option.some.injEq] at hq
   subst hq
   omega
  | succ j=>
   have:=h2.at j q (by simpa using hq)
   omega
theorem Chain.lt :∀ {n:Nat} {l:List (Nat×Cfg)} {e:Nat},Chain n l e→∀ (i j:Nat) (p q:Nat×Cfg),i<j→l[i]?=some p→l[j]?=some q→p.1+p.2.K≤q.1
 | n,[],e,_,i,j,p,q,_,hp,_=>by simp at hp
 | n,x::r,e,⟨h0,n2,h1,h2⟩,i,j,p,q,hij,hp,hq=>by
  cases j with
  | zero=>omega
  | succ j=>
   cases i with
   | zero=>
    simp only [List.getElem?_cons_zero,Option.some.injEq] at hp
    subst hp
    have:=(h2.at j q (by simpa using hq)).1
    omega
   | succ i=>exact h2.lt i j p q (by omega) (by simpa using hp) (by simpa using hq)
variable {tb:Tbl} {N:Nat} {call:zn} {all:List Oper}
end Go.Mir
namespace Go.Mir
open Go.RowKit
variable {P:Program}
def Tri.toL {α:Type}:Tri α→List (Nat×α)
 | .lf=> []
 | .nd l v r=>(match v with|some x=> [(0,x)]|none=> []) ++((l.toL.map fun p=>(2*p.1+1,p.2)) ++(r.toL.map fun p=>(2*p.1+2,p.2)))
variable {tb:Tbl} {N:Nat} {call:zn} {B:Base} {E0:Env} {n0:Nat}
def He (td:TD):TD:=⟨td.kind,td.size,td.bytes,td.zero,none⟩
def zh (tb:Tbl):Tbl:=fun t=>match tb t with
 | some td=>some (He td)
 | none=>none
theorem Df {tb:Tbl} (h:aH P tb):aH P (zh tb):=fun t td ht=>by
 unfold zh at ht
 split at ht
 case h_2=>cases ht
 rename_i td0 h0
 cases ht
 have:=h _ _ h0
 exact ⟨fun hp=>this.eqk hp,this.info,this.kind,this.zagg⟩
def xL (P:Program):Bool:=P.funcs.toList.all fun fn=>!(fn.name == "runtime.NumGoroutine")
theorem uN (h:xL P=true) (f:FuncId) (fn:Func) (hf:P.funcs[f]?=some fn) :(fn.name == "runtime.NumGoroutine")=false:=by
 have:=List.all_eq_true.1 h fn (by
  obtain ⟨hl,he⟩:=Array.getElem?_eq_some_iff.1 hf
  rw [←he]
  exact Array.mem_toList_iff.2 (Array.getElem_mem hl))
 simpa using this
end Go.Mir
