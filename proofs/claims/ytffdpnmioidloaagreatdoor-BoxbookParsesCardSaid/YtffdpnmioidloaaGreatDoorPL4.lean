/- Texts of the mirror and contracts, put together. -/
import Derived.Test.YtffdpnmioidloaaGreatDoorPL3
import Derived.Shelf.Strconv.Itoa4
import Derived.Lib.ItoaLen
import Derived.Shelf.Strings.Prefix
import Derived.Shelf.Strings.SlTrimAscii
import Derived.Shelf.Strconv.ParseIntPublic10
import Derived.Shelf.Strings.Split
import Derived.RangeFuncNested
import Derived.RangeFuncBound
import Derived.RangeFuncCalls
import Derived.RangeFuncLeaves
import Derived.Shelf.RegionOpen
import Derived.WalkKit
import Derived.OwnWalkIn
import Derived.TacticsInMore
import Derived.LoopNIn
import Derived.LoopIn
import Derived.Shelf.Small.Strs
import Derived.TacticsIn
import Derived.OrdersIn
import Derived.Shelf.Strings.Cut
import Derived.Shelf.Strings.OnBuilder
namespace Go.Proofs.YtffdpnmioidloaaGreatDoor
open Go Go.Mir Go.RowKit Go.Shelf
def Ae:Go.Shelf.Ren:=⟨fun|173=>105|246=>169|283=>210|284=>211|285=>212|286=>213|129=>255|317=>254|318=>256|319=>257|320=>258|337=>292|338=>293|n=>n,fun|2=>2|3=>3|9=>9|4=>4|171=>258|0=>0|53=>197|37=>109|5=>5|173=>261|212=>298|51=>299|20=>20|213=>300|46=>276|232=>342|233=>343|n=>n,fun|17=>0|18=>6|19=>7|n=>n⟩
theorem K0:Go.Proofs.LaysM.n173 Tryz.prog Ae where
 mixed:=by kernel_rfl
 f129:=Tryz.func255.trans (congrArg some (by kernel_rfl))
 f173:=Tryz.func105.trans (congrArg some (by kernel_rfl))
 f246:=Tryz.func169.trans (congrArg some (by kernel_rfl))
 f283:=Tryz.func210.trans (congrArg some (by kernel_rfl))
 f284:=Tryz.func211.trans (congrArg some (by kernel_rfl))
 f285:=Tryz.func212.trans (congrArg some (by kernel_rfl))
 f286:=Tryz.func213.trans (congrArg some (by kernel_rfl))
 f317:=Tryz.func254.trans (congrArg some (by kernel_rfl))
 f318:=Tryz.func256.trans (congrArg some (by kernel_rfl))
 f319:=Tryz.func257.trans (congrArg some (by kernel_rfl))
 f320:=Tryz.func258.trans (congrArg some (by kernel_rfl))
 f337:=Tryz.func292.trans (congrArg some (by kernel_rfl))
 f338:=Tryz.func293.trans (congrArg some (by kernel_rfl))
 t0:=Tryz.underlying0
 a0:=Tryz.isAgg0
 z0:=Tryz.sizeOf0
 v0:=Tryz.zeroValue0
 t2:=Tryz.underlying2
 a2:=Tryz.isAgg2
 z2:=Tryz.sizeOf2
 v2:=Tryz.zeroValue2
 t3:=Tryz.underlying3
 a3:=Tryz.isAgg3
 z3:=Tryz.sizeOf3
 v3:=Tryz.zeroValue3
 t4:=Tryz.underlying4
 a4:=Tryz.isAgg4
 z4:=Tryz.sizeOf4
 v4:=Tryz.zeroValue4
 t5:=Tryz.underlying5
 a5:=Tryz.isAgg5
 z5:=Tryz.sizeOf5
 v5:=Tryz.zeroValue5
 t9:=Tryz.underlying9
 a9:=Tryz.isAgg9
 z9:=Tryz.sizeOf9
 v9:=Tryz.zeroValue9
 t20:=Tryz.underlying20
 a20:=Tryz.isAgg20
 z20:=Tryz.sizeOf20
 v20:=Tryz.zeroValue20
 t37:=Tryz.underlying109
 a37:=Tryz.isAgg109
 z37:=Tryz.sizeOf109
 v37:=Tryz.zeroValue109
 t46:=Tryz.underlying276
 a46:=Tryz.isAgg276
 z46:=Tryz.sizeOf276
 v46:=Tryz.zeroValue276
 t51:=Tryz.underlying299
 a51:=Tryz.isAgg299
 z51:=Tryz.sizeOf299
 v51:=Tryz.zeroValue299
 t53:=Tryz.underlying197
 a53:=Tryz.isAgg197
 z53:=Tryz.sizeOf197
 v53:=Tryz.zeroValue197
 t171:=Tryz.underlying258
 a171:=Tryz.isAgg258
 z171:=Tryz.sizeOf258
 v171:=Tryz.zeroValue258
 t173:=Tryz.underlying261
 a173:=Tryz.isAgg261
 z173:=Tryz.sizeOf261
 v173:=Tryz.zeroValue261
 t212:=Tryz.underlying298
 a212:=Tryz.isAgg298
 z212:=Tryz.sizeOf298
 v212:=Tryz.zeroValue298
 t213:=Tryz.underlying300
 a213:=Tryz.isAgg300
 z213:=Tryz.sizeOf300
 t232:=Tryz.underlying342
 a232:=Tryz.isAgg342
 z232:=Tryz.sizeOf342
 v232:=Tryz.zeroValue342
 t233:=Tryz.underlying343
 a233:=Tryz.isAgg343
 z233:=Tryz.sizeOf343
 v233:=Tryz.zeroValue343
 g17:=by kernel_rfl
 g18:=by kernel_rfl
 g19:=by kernel_rfl
 i0:=by kernel_rfl
 i2:=by kernel_rfl
 i3:=by kernel_rfl
 i4:=by kernel_rfl
 i5:=by kernel_rfl
 i9:=by kernel_rfl
 i20:=by kernel_rfl
 i37:=by kernel_rfl
 i46:=by kernel_rfl
 i51:=by kernel_rfl
 i53:=by kernel_rfl
 i171:=by kernel_rfl
 i173:=by kernel_rfl
 i212:=by kernel_rfl
 i232:=by kernel_rfl
 i233:=by kernel_rfl
 m17:=by kernel_rfl
 m18:=by kernel_rfl
 m19:=by kernel_rfl
def aQ (n:Int):ByteArray:=⟨(Lib.itoa n).toArray⟩
abbrev Pr:Ty:= .prod (.int .i64) .unit
def EJ:Den Pr→PRes:=fun x=>⟨[],.str (aQ x.1),[]⟩
def mD:FuncId×Ctr:=(45,aM KE Pr EJ)
theorem Qn {w:World} (h:jz w fun _=>False):Lib.TabIs Tryz.prog w "internal/strconv.uint64pow10" .u64 Lib.pow10Tab:=by
 obtain ⟨⟨o,h1,T,fr,rfl⟩,_⟩:=h (0,D2) (by unfold GL;simp)
 unfold Lib.TabIs World.var?
 rw [show Tryz.prog.globalNamed "internal/strconv.uint64pow10" = some 0 by kernel_rfl]
 simp only [Option.bind_some,h1]
theorem Cp (w:World) (k:Nat) (os:Array Obj):Keeps w (fun _=>False) (Go.Sort.grow (w.drewN k) os):=
 ⟨rfl,rfl,rfl,by simp [Go.Sort.grow],fun b hb _=>by simp [Go.Sort.grow,Array.getElem?_append_left hb]⟩
set_option maxHeartbeats 1600000 in
theorem nQ:CtrOK Tryz.prog KE 45 (aM KE Pr EJ):=by
 refine oX Tryz.func45 (by kernel_rfl) (by kernel_rfl) (fun _=>⟨rfl,rfl⟩) (fun x av w E hw _ hg hav=>?_) (fun _ _=>rfl)
 obtain ⟨n,⟨⟩⟩:=x
 obtain ⟨a,r,rfl,h1,h2⟩:=bu hav
 have h5:r=[]:=by cases r with|nil=>rfl|cons=>simp [eQ,ab] at h2
 subst h5
 simp only [eI,aa] at h1
 obtain ⟨rfl,hk⟩:=h1
 have e1:IntKind.i64.min = -9223372036854775808:=by decide
 have e2:IntKind.i64.max=9223372036854775807:=by decide
 unfold ok at hk
 rw [e1,e2] at hk
 have hc:Calls Tryz.prog 45 #[.int .i64 n] w fun e w'=>e = .returned (.string (aQ n))∧∃ k os,w'=Go.Sort.grow (w.drewN k) os:=by
  go_enter Tryz.func45,Tryz.ntmps45
  go_wp2_with (go_at_call 105;refine (Any.strconv_FormatInt_10 K0 n hk.1 hk.2 _ (Qn hg)).mono ?_;rintro e w' ⟨rfl,k,os,rfl⟩)
  go_ret
  exact ⟨rfl,k,os,rfl⟩
 refine hc.mono fun e w' ⟨he,k,os,hw'⟩=>⟨_,he,by rw [hw'];exact Cp _ _ _,fun E'=>?_⟩
 refine ⟨rfl,?_⟩
 show (Lib.itoa n).toArray.size≤au
 have:=Lib.itoa_length_le n hk.1 hk.2
 rw [List.size_toArray]
 exact Nat.le_trans this (by decide)
end Go.Proofs.YtffdpnmioidloaaGreatDoor
namespace Go.Proofs.YtffdpnmioidloaaGreatDoor
open Go Go.Mir Go.RowKit Go.Shelf
def zW:Go.Shelf.Ren:=⟨fun|101=>180|208=>219|206=>263|n=>n,fun|9=>9|4=>4|3=>3|n=>n,fun|n=>n⟩
theorem KV:Go.Proofs.Lays.n101 Tryz.prog zW where
 mixed:=by kernel_rfl
 f101:=Tryz.func180.trans (congrArg some (by kernel_rfl))
 f206:=Tryz.func263.trans (congrArg some (by kernel_rfl))
 f208:=Tryz.func219.trans (congrArg some (by kernel_rfl))
 t3:=Tryz.underlying3
 a3:=Tryz.isAgg3
 z3:=Tryz.sizeOf3
 v3:=Tryz.zeroValue3
 t4:=Tryz.underlying4
 a4:=Tryz.isAgg4
 z4:=Tryz.sizeOf4
 v4:=Tryz.zeroValue4
 t9:=Tryz.underlying9
 a9:=Tryz.isAgg9
 z9:=Tryz.sizeOf9
 v9:=Tryz.zeroValue9
def Ad:Go.Shelf.Ren:=⟨fun|160=>181|232=>221|231=>220|227=>222|234=>224|233=>223|236=>226|235=>225|228=>264|271=>266|151=>265|197=>216|120=>296|152=>295|260=>259|137=>108|119=>317|224=>261|225=>260|217=>170|266=>214|n=>n,fun|9=>9|4=>4|3=>3|5=>5|117=>269|116=>268|0=>0|124=>272|21=>21|105=>264|46=>276|119=>318|139=>321|138=>320|n=>n,fun|3=>4|4=>5|n=>n⟩
theorem KZ:Go.Proofs.Lays.n160 Tryz.prog Ad where
 mixed:=by kernel_rfl
 f119:=Tryz.func317.trans (congrArg some (by kernel_rfl))
 f120:=Tryz.func296.trans (congrArg some (by kernel_rfl))
 f137:=Tryz.func108.trans (congrArg some (by kernel_rfl))
 f151:=Tryz.func265.trans (congrArg some (by kernel_rfl))
 f152:=Tryz.func295.trans (congrArg some (by kernel_rfl))
 f160:=Tryz.func181.trans (congrArg some (by kernel_rfl))
 f197:=Tryz.func216.trans (congrArg some (by kernel_rfl))
 f217:=Tryz.func170.trans (congrArg some (by kernel_rfl))
 f224:=Tryz.func261.trans (congrArg some (by kernel_rfl))
 f225:=Tryz.func260.trans (congrArg some (by kernel_rfl))
 f227:=Tryz.func222.trans (congrArg some (by kernel_rfl))
 f228:=Tryz.func264.trans (congrArg some (by kernel_rfl))
 f231:=Tryz.func220.trans (congrArg some (by kernel_rfl))
 f232:=Tryz.func221.trans (congrArg some (by kernel_rfl))
 f233:=Tryz.func223.trans (congrArg some (by kernel_rfl))
 f234:=Tryz.func224.trans (congrArg some (by kernel_rfl))
 f235:=Tryz.func225.trans (congrArg some (by kernel_rfl))
 f236:=Tryz.func226.trans (congrArg some (by kernel_rfl))
 f260:=Tryz.func259.trans (congrArg some (by kernel_rfl))
 f266:=Tryz.func214.trans (congrArg some (by kernel_rfl))
 f271:=Tryz.func266.trans (congrArg some (by kernel_rfl))
 t0:=Tryz.underlying0
 a0:=Tryz.isAgg0
 z0:=Tryz.sizeOf0
 v0:=Tryz.zeroValue0
 t3:=Tryz.underlying3
 a3:=Tryz.isAgg3
 z3:=Tryz.sizeOf3
 v3:=Tryz.zeroValue3
 t4:=Tryz.underlying4
 a4:=Tryz.isAgg4
 z4:=Tryz.sizeOf4
 v4:=Tryz.zeroValue4
 t5:=Tryz.underlying5
 a5:=Tryz.isAgg5
 z5:=Tryz.sizeOf5
 v5:=Tryz.zeroValue5
 t9:=Tryz.underlying9
 a9:=Tryz.isAgg9
 z9:=Tryz.sizeOf9
 v9:=Tryz.zeroValue9
 t21:=Tryz.underlying21
 a21:=Tryz.isAgg21
 z21:=Tryz.sizeOf21
 v21:=Tryz.zeroValue21
 t46:=Tryz.underlying276
 a46:=Tryz.isAgg276
 z46:=Tryz.sizeOf276
 v46:=Tryz.zeroValue276
 t105:=Tryz.underlying264
 a105:=Tryz.isAgg264
 z105:=Tryz.sizeOf264
 v105:=Tryz.zeroValue264
 t116:=Tryz.underlying268
 a116:=Tryz.isAgg268
 z116:=Tryz.sizeOf268
 t117:=Tryz.underlying269
 a117:=Tryz.isAgg269
 z117:=Tryz.sizeOf269
 v117:=Tryz.zeroValue269
 t119:=Tryz.underlying318
 a119:=Tryz.isAgg318
 z119:=Tryz.sizeOf318
 t124:=Tryz.underlying272
 a124:=Tryz.isAgg272
 z124:=Tryz.sizeOf272
 v124:=Tryz.zeroValue272
 t138:=Tryz.underlying320
 a138:=Tryz.isAgg320
 z138:=Tryz.sizeOf320
 v138:=Tryz.zeroValue320
 t139:=Tryz.underlying321
 a139:=Tryz.isAgg321
 z139:=Tryz.sizeOf321
 v139:=Tryz.zeroValue321
 g3:=by kernel_rfl
 g4:=by kernel_rfl
def minusB:ByteArray:=⟨#[45]⟩
def digsB:ByteArray:=⟨#[48,49,50,51,52,53,54,55,56,57]⟩
def mR (s:ByteArray):Bool:=
 let d:=Lib.trimPrefix s.data.toList minusB.data.toList
 !(d.isEmpty ||(d.headD 0==48&&!(s.toList==[48])))&&(Lib.trimS d digsB.data.toList).isEmpty
theorem NB {b:UInt8} (h :(b.toNat:Int)=48):b=48:=UInt8.toNat_inj.1 (by show b.toNat=48;omega)
set_option maxHeartbeats 3200000 in
theorem jl (s:ByteArray) (w:World) (hs:s.size≤au):Calls Tryz.prog 123 #[.string s] w fun e w'=>e = .returned (.bool (mR s))∧Below w.heap.size w w':=by
 have hl :(Lib.trimPrefix s.data.toList minusB.data.toList).length≤au:=by
  unfold Lib.trimPrefix
  have:s.data.toList.length≤au:=by rw [Array.length_toList];exact hs
  split
  ·rw [List.length_drop];omega
  ·exact this
 have cT :∀ w,Calls Tryz.prog 181 #[.string ⟨(Lib.trimPrefix s.data.toList minusB.data.toList).toArray⟩,.string digsB] w fun e w'=>e = .returned (.string ⟨(Lib.trimS (Lib.trimPrefix s.data.toList minusB.data.toList) digsB.data.toList).toArray⟩)∧Below w.heap.size w w':=fun w=>
  Any.strings_Trim_laid KZ (by kernel_rfl) ⟨(Lib.trimPrefix s.data.toList minusB.data.toList).toArray⟩ digsB w (by show (Lib.trimPrefix s.data.toList minusB.data.toList).toArray.size≤_;rw [List.size_toArray];exact Nat.le_trans hl (by decide)) (by decide) (ascii_of_all (by decide))
 have cP :∀ w,Calls Tryz.prog 180 #[.string s,.string minusB] w fun e w'=>e = .returned (.string ⟨(Lib.trimPrefix s.data.toList minusB.data.toList).toArray⟩)∧w'=w:=fun w=>Any.strings_TrimPrefix KV s minusB w
 unfold mR
 generalize Lib.trimPrefix s.data.toList minusB.data.toList=d at *
 unfold minusB at cP
 unfold digsB at cT
 go_enter Tryz.func123,Tryz.ntmps123
 go_wp2_with (first |(go_at_call 180;refine (cP _).mono ?_;rintro e w' ⟨rfl,rfl⟩) |(go_at_call 181;refine (cT _).mono ?_;rintro e w' ⟨rfl,hB⟩))
 all_goals (try go_ret)
 ·rename_i h
  subst h
  exact ⟨congrArg (fun b=>Ending.returned (.bool b)) (by rfl),Below.refl _ _⟩
 ·rename_i h3 h2 h1 h
  cases d with
  | nil=>exact absurd rfl h3
  | cons b t=>
  have hb:b=48:=NB h1
  rcases h with h|h
  ·exact absurd h (by simp)
  subst hb
  refine ⟨congrArg (fun b=>Ending.returned (.bool b)) ?_,Below.refl _ _⟩
  simp [h]
 ·rename_i h3 h2 h1 h
  cases d with
  | nil=>exact absurd rfl h3
  | cons b t=>
  have hb:b=48:=NB h1
  subst hb
  refine ⟨congrArg (fun b=>Ending.returned (.bool b)) ?_,by assumption⟩
  show (Lib.trimS _ digsB.data.toList).isEmpty=_
  simp [h.2]
 ·rename_i h3 h2 h1 h
  cases d with
  | nil=>exact absurd rfl h3
  | cons b t=>exact absurd h (by simp)
 ·rename_i h3 h2 h1 h
  cases d with
  | nil=>exact absurd rfl h3
  | cons b t=>
  have hb :(b==48)=false:=by
   cases hb:b==48
   ·rfl
   ·exact absurd (by have:=eq_of_beq hb;subst this;rfl) h1
  refine ⟨congrArg (fun b=>Ending.returned (.bool b)) ?_,by assumption⟩
  show (Lib.trimS _ digsB.data.toList).isEmpty=_
  simp [hb]
 ·rename_i h
  exact absurd (List.length_pos_iff.2 (by assumption)) h
end Go.Proofs.YtffdpnmioidloaaGreatDoor
namespace Go.Proofs.YtffdpnmioidloaaGreatDoor
open Go Go.Mir Go.RowKit Go.Shelf
def Af:Go.Shelf.Ren:=⟨fun|174=>124|247=>182|245=>183|287=>227|279=>228|280=>229|281=>230|282=>231|321=>267|322=>268|316=>269|171=>271|205=>270|243=>297|246=>169|283=>210|284=>211|285=>212|286=>213|129=>255|317=>254|318=>256|319=>257|320=>258|337=>292|338=>293|n=>n,fun|9=>9|3=>3|2=>2|75=>118|85=>195|4=>4|167=>273|5=>5|53=>197|175=>274|46=>276|168=>277|37=>109|0=>0|210=>306|21=>21|127=>193|145=>327|143=>325|171=>258|173=>261|212=>298|51=>299|20=>20|213=>300|232=>342|233=>343|80=>122|n=>n,fun|15=>2|16=>3|17=>0|18=>6|19=>7|n=>n⟩
theorem xT:Go.Proofs.LaysC.n174 Tryz.prog Af where
 mixed:=by kernel_rfl
 f129:=Tryz.func255.trans (congrArg some (by kernel_rfl))
 f171:=Tryz.func271.trans (congrArg some (by kernel_rfl))
 f174:=Tryz.func124.trans (congrArg some (by kernel_rfl))
 f205:=Tryz.func270.trans (congrArg some (by kernel_rfl))
 f243:=Tryz.func297.trans (congrArg some (by kernel_rfl))
 f245:=Tryz.func183.trans (congrArg some (by kernel_rfl))
 f246:=Tryz.func169.trans (congrArg some (by kernel_rfl))
 f247:=Tryz.func182.trans (congrArg some (by kernel_rfl))
 f279:=Tryz.func228.trans (congrArg some (by kernel_rfl))
 f280:=Tryz.func229.trans (congrArg some (by kernel_rfl))
 f281:=Tryz.func230.trans (congrArg some (by kernel_rfl))
 f282:=Tryz.func231.trans (congrArg some (by kernel_rfl))
 f283:=Tryz.func210.trans (congrArg some (by kernel_rfl))
 f284:=Tryz.func211.trans (congrArg some (by kernel_rfl))
 f285:=Tryz.func212.trans (congrArg some (by kernel_rfl))
 f286:=Tryz.func213.trans (congrArg some (by kernel_rfl))
 f287:=Tryz.func227.trans (congrArg some (by kernel_rfl))
 f316:=Tryz.func269.trans (congrArg some (by kernel_rfl))
 f317:=Tryz.func254.trans (congrArg some (by kernel_rfl))
 f318:=Tryz.func256.trans (congrArg some (by kernel_rfl))
 f319:=Tryz.func257.trans (congrArg some (by kernel_rfl))
 f320:=Tryz.func258.trans (congrArg some (by kernel_rfl))
 f321:=Tryz.func267.trans (congrArg some (by kernel_rfl))
 f322:=Tryz.func268.trans (congrArg some (by kernel_rfl))
 f337:=Tryz.func292.trans (congrArg some (by kernel_rfl))
 f338:=Tryz.func293.trans (congrArg some (by kernel_rfl))
 t0:=Tryz.underlying0
 a0:=Tryz.isAgg0
 z0:=Tryz.sizeOf0
 v0:=Tryz.zeroValue0
 t2:=Tryz.underlying2
 a2:=Tryz.isAgg2
 z2:=Tryz.sizeOf2
 v2:=Tryz.zeroValue2
 t3:=Tryz.underlying3
 a3:=Tryz.isAgg3
 z3:=Tryz.sizeOf3
 v3:=Tryz.zeroValue3
 t4:=Tryz.underlying4
 a4:=Tryz.isAgg4
 z4:=Tryz.sizeOf4
 v4:=Tryz.zeroValue4
 t5:=Tryz.underlying5
 a5:=Tryz.isAgg5
 z5:=Tryz.sizeOf5
 v5:=Tryz.zeroValue5
 t9:=Tryz.underlying9
 a9:=Tryz.isAgg9
 z9:=Tryz.sizeOf9
 v9:=Tryz.zeroValue9
 t20:=Tryz.underlying20
 a20:=Tryz.isAgg20
 z20:=Tryz.sizeOf20
 v20:=Tryz.zeroValue20
 t21:=Tryz.underlying21
 a21:=Tryz.isAgg21
 z21:=Tryz.sizeOf21
 v21:=Tryz.zeroValue21
 t37:=Tryz.underlying109
 a37:=Tryz.isAgg109
 z37:=Tryz.sizeOf109
 v37:=Tryz.zeroValue109
 t46:=Tryz.underlying276
 a46:=Tryz.isAgg276
 z46:=Tryz.sizeOf276
 v46:=Tryz.zeroValue276
 t51:=Tryz.underlying299
 a51:=Tryz.isAgg299
 z51:=Tryz.sizeOf299
 v51:=Tryz.zeroValue299
 t53:=Tryz.underlying197
 a53:=Tryz.isAgg197
 z53:=Tryz.sizeOf197
 v53:=Tryz.zeroValue197
 t75:=Tryz.underlying118
 a75:=Tryz.isAgg118
 z75:=Tryz.sizeOf118
 v75:=Tryz.zeroValue118
 t85:=Tryz.underlying195
 a85:=Tryz.isAgg195
 z85:=Tryz.sizeOf195
 v85:=Tryz.zeroValue195
 t127:=Tryz.underlying193
 a127:=Tryz.isAgg193
 z127:=Tryz.sizeOf193
 v127:=Tryz.zeroValue193
 t143:=Tryz.underlying325
 a143:=Tryz.isAgg325
 z143:=Tryz.sizeOf325
 v143:=Tryz.zeroValue325
 t145:=Tryz.underlying327
 a145:=Tryz.isAgg327
 z145:=Tryz.sizeOf327
 v145:=Tryz.zeroValue327
 t167:=Tryz.underlying273
 a167:=Tryz.isAgg273
 z167:=Tryz.sizeOf273
 v167:=Tryz.zeroValue273
 t168:=Tryz.underlying277
 a168:=Tryz.isAgg277
 z168:=Tryz.sizeOf277
 v168:=Tryz.zeroValue277
 t171:=Tryz.underlying258
 a171:=Tryz.isAgg258
 z171:=Tryz.sizeOf258
 v171:=Tryz.zeroValue258
 t173:=Tryz.underlying261
 a173:=Tryz.isAgg261
 z173:=Tryz.sizeOf261
 v173:=Tryz.zeroValue261
 t175:=Tryz.underlying274
 a175:=Tryz.isAgg274
 z175:=Tryz.sizeOf274
 v175:=Tryz.zeroValue274
 t210:=Tryz.underlying306
 a210:=Tryz.isAgg306
 z210:=Tryz.sizeOf306
 v210:=Tryz.zeroValue306
 t212:=Tryz.underlying298
 a212:=Tryz.isAgg298
 z212:=Tryz.sizeOf298
 v212:=Tryz.zeroValue298
 t213:=Tryz.underlying300
 a213:=Tryz.isAgg300
 z213:=Tryz.sizeOf300
 t232:=Tryz.underlying342
 a232:=Tryz.isAgg342
 z232:=Tryz.sizeOf342
 v232:=Tryz.zeroValue342
 t233:=Tryz.underlying343
 a233:=Tryz.isAgg343
 z233:=Tryz.sizeOf343
 v233:=Tryz.zeroValue343
 g15:=by kernel_rfl
 g16:=by kernel_rfl
 g17:=by kernel_rfl
 g18:=by kernel_rfl
 g19:=by kernel_rfl
 t80:=Tryz.underlying122
 a80:=Tryz.isAgg122
 z80:=Tryz.sizeOf122
 v80:=Tryz.zeroValue122
 i0:=by kernel_rfl
 i2:=by kernel_rfl
 i3:=by kernel_rfl
 i4:=by kernel_rfl
 i5:=by kernel_rfl
 i9:=by kernel_rfl
 i20:=by kernel_rfl
 i21:=by kernel_rfl
 i37:=by kernel_rfl
 i46:=by kernel_rfl
 i51:=by kernel_rfl
 i53:=by kernel_rfl
 i75:=by kernel_rfl
 i80:=by kernel_rfl
 i85:=by kernel_rfl
 i127:=by kernel_rfl
 i143:=by kernel_rfl
 i145:=by kernel_rfl
 i167:=by kernel_rfl
 i168:=by kernel_rfl
 i171:=by kernel_rfl
 i173:=by kernel_rfl
 i175:=by kernel_rfl
 i210:=by kernel_rfl
 i212:=by kernel_rfl
 i232:=by kernel_rfl
 i233:=by kernel_rfl
 m15:=by kernel_rfl
 m16:=by kernel_rfl
 m17:=by kernel_rfl
 m18:=by kernel_rfl
 m19:=by kernel_rfl
 c0:=by kernel_rfl
 c2:=by kernel_rfl
 c3:=by kernel_rfl
 c4:=by kernel_rfl
 c5:=by kernel_rfl
 c9:=by kernel_rfl
 c20:=by kernel_rfl
 c21:=by kernel_rfl
 c37:=by kernel_rfl
 c46:=by kernel_rfl
 c51:=by kernel_rfl
 c53:=by kernel_rfl
 c75:=by kernel_rfl
 c80:=by kernel_rfl
 c85:=by kernel_rfl
 c127:=by kernel_rfl
 c143:=by kernel_rfl
 c145:=by kernel_rfl
 c167:=by kernel_rfl
 c168:=by kernel_rfl
 c171:=by kernel_rfl
 c173:=by kernel_rfl
 c175:=by kernel_rfl
 c210:=by kernel_rfl
 c212:=by kernel_rfl
 c213:=by kernel_rfl
 c232:=by kernel_rfl
 c233:=by kernel_rfl
def jM (s:ByteArray) (lo hi:Int):Int×Int:=
 if mR s then
  match Lib.parseIntB 64 s.data.toList with
  | .ok v=>if v<lo∨hi<v then (0,2) else (v,0)
  | _=>(0,2)
 else (0,4)
theorem y4 (w:World) (T:TypeId) (s:ByteArray):Below w.heap.size w (Lib.bytesWorld w T s):=
 ⟨rfl,rfl,rfl,by rw [Lib.bytesWorld_size];omega,fun k hk=>Lib.bytesWorld_at_old w T s k hk⟩
def ErrCell (w:World) (b:Nat):Prop:=∃ o,w.heap[b]?=some o∧px o
theorem ErrCell.below {w w':World} {b:Nat} (h:ErrCell w b) (hB:Below w.heap.size w w'):ErrCell w' b:=by
 obtain ⟨o,h1,h2⟩:=h
 refine ⟨o,?_,h2⟩
 rw [hB.block b]
 ·exact h1
 ·rcases Nat.lt_or_ge b w.heap.size with h|h
  ·exact h
  ·rw [Array.getElem?_eq_none h] at h1;cases h1
theorem ErrCell.at {w:World} {b:Nat} (h:ErrCell w b) :∃ ev,w.cell? ⟨b,0,none⟩=some ev∧∃ te pe,ev = .iface te pe:=by
 obtain ⟨o,h1,te,pe,T,fr,rfl⟩:=h
 exact ⟨_,by simp [World.cell?,h1],te,pe,rfl⟩
theorem F8 (s:ByteArray) (hs:s.size≤au) (h :∀ v,Lib.parseIntB 64 s.data.toList≠ .ok v) (w:World) (h2:ErrCell w 2) (h3:ErrCell w 3) :
  Calls Tryz.prog 124 #[.string s,.int .i64 10,.int .i64 64] w fun e w'=>∃ z te pe,e = .returned (.tuple #[.int .i64 z,.iface te pe])∧Below w.heap.size w w':=by
 have hl:s.size≤281474976710656:=Nat.le_trans hs (by decide)
 obtain ⟨e2,c2,v2⟩:=h2.at
 obtain ⟨e3,c3,v3⟩:=h3.at
 cases hp:Lib.parseIntB 64 s.data.toList
 case ok v=>exact absurd hp (h v)
 case range=>exact (Any.strconv_ParseInt_10_at64_range xT s hl hp _ w c3 (.inr v3)).mono fun e w' ⟨N,h1,_,_,hB⟩=>⟨_,_,_,h1,hB⟩
 exact (Any.strconv_ParseInt_10_at64_syntax xT s hl hp _ w c2 (.inr v2)).mono fun e w' ⟨N,h1,_,_,hB⟩=>⟨_,_,_,h1,hB⟩
theorem Je (s:ByteArray) (hs:s.size≤au) {v:Int} (h:Lib.parseIntB 64 s.data.toList = .ok v) (w:World) :
  Calls Tryz.prog 124 #[.string s,.int .i64 10,.int .i64 64] w fun e w'=>e = .returned (.tuple #[.int .i64 v,.nilIface])∧Below w.heap.size w w':=
 (Any.strconv_ParseInt_10_at64_ok xT s (Nat.le_trans hs (by decide)) v h w).mono fun e w' ⟨h1,h2⟩=>⟨h1,by
  rcases h2 with rfl |⟨t,rfl⟩
  ·exact Below.refl _ _
  ·exact y4 _ _ _⟩
def GH (w:World) (a b:Int) (e:Ending) (w':World):Prop:=e = .returned (.tuple #[.int .i64 a,.int .i64 b])∧Below w.heap.size w w'
set_option maxHeartbeats 3200000 in
theorem F0 (s:ByteArray) (lo hi:Int) (w:World) (hs:s.size≤au) (hb:mR s=false) :
  Calls Tryz.prog 73 #[.string s,.int .i64 lo,.int .i64 hi] w (GH w 0 4):=by
 have cD :∀ w,Calls Tryz.prog 123 #[.string s] w fun e w'=>e = .returned (.bool (mR s))∧Below w.heap.size w w':=fun w=>jl s w hs
 rw [hb] at cD
 go_enter Tryz.func73,Tryz.ntmps73
 go_wp2_with (go_at_call 123;refine (cD _).mono ?_;rintro e w' ⟨rfl,hB⟩)
 go_ret2
 exact ⟨rfl,by assumption⟩
set_option maxHeartbeats 3200000 in
theorem sJ (s:ByteArray) (lo hi:Int) (w:World) (hs:s.size≤au) (hb:mR s=true) (h :∀ v,Lib.parseIntB 64 s.data.toList≠ .ok v) (h2:ErrCell w 2) (h3:ErrCell w 3) :
  Calls Tryz.prog 73 #[.string s,.int .i64 lo,.int .i64 hi] w (GH w 0 2):=by
 have cD :∀ w,Calls Tryz.prog 123 #[.string s] w fun e w'=>e = .returned (.bool (mR s))∧Below w.heap.size w w':=fun w=>jl s w hs
 rw [hb] at cD
 have cI:=fun w=>F8 s hs h w
 go_enter Tryz.func73,Tryz.ntmps73
 go_wp2_with (first |(go_at_call 123;refine (cD _).mono ?_;rintro e w' ⟨rfl,hB⟩) |(go_at_call 124;refine (cI _ (h2.below hB) (h3.below hB)).mono ?_;rintro e w'' ⟨z,te,pe,rfl,hB2⟩))
 go_ret2
 exact ⟨rfl,hB.trans (hB2.mono hB.size)⟩
set_option maxHeartbeats 3200000 in
theorem vY (s:ByteArray) (lo hi:Int) (w:World) (hs:s.size≤au) (hb:mR s=true) {v:Int} (h:Lib.parseIntB 64 s.data.toList = .ok v) :
  Calls Tryz.prog 73 #[.string s,.int .i64 lo,.int .i64 hi] w fun e w'=>((v<lo∨hi<v)→GH w 0 2 e w')∧(¬(v<lo∨hi<v)→GH w v 0 e w'):=by
 have cD :∀ w,Calls Tryz.prog 123 #[.string s] w fun e w'=>e = .returned (.bool (mR s))∧Below w.heap.size w w':=fun w=>jl s w hs
 rw [hb] at cD
 have cI:=fun w=>Je s hs h w
 go_enter Tryz.func73,Tryz.ntmps73
 go_wp2_with (first |(go_at_call 123;refine (cD _).mono ?_;rintro e w' ⟨rfl,hB⟩) |(go_at_call 124;refine (cI _).mono ?_;rintro e w'' ⟨rfl,hB2⟩))
 all_goals go_ret2
 ·exact ⟨fun _=>⟨rfl,hB.trans (hB2.mono hB.size)⟩,fun h=>absurd (by assumption) h⟩
 ·rename_i _ hr
  exact ⟨fun h=>by omega,fun _=>⟨rfl,hB.trans (hB2.mono hB.size)⟩⟩
 ·exact ⟨rfl,hB.trans (hB2.mono hB.size)⟩
theorem x9 (s:ByteArray) (lo hi:Int) (w:World) (hs:s.size≤au) (h2:ErrCell w 2) (h3:ErrCell w 3) :
  Calls Tryz.prog 73 #[.string s,.int .i64 lo,.int .i64 hi] w (GH w (jM s lo hi).1 (jM s lo hi).2):=by
 unfold jM
 cases hb:mR s with
 | false=>exact F0 s lo hi w hs hb
 | true=>
  simp only [if_true]
  cases hp:Lib.parseIntB 64 s.data.toList
  case range=>exact sJ s lo hi w hs hb (fun v h=>by rw [hp] at h;cases h) h2 h3
  case ok v=>
   simp only []
   by_cases hr:v<lo∨hi<v
   ·rw [if_pos hr]
    exact (vY s lo hi w hs hb hp).mono fun e w' h=>h.1 hr
   ·rw [if_neg hr]
    exact (vY s lo hi w hs hb hp).mono fun e w' h=>h.2 hr
  exact sJ s lo hi w hs hb (fun v h=>by rw [hp] at h;cases h) h2 h3
theorem AA (s:ByteArray) (lo hi:Int) :(jM s lo hi).1=0∨(lo≤(jM s lo hi).1∧(jM s lo hi).1≤hi):=by
 unfold jM
 repeat' split
 all_goals first|exact .inl rfl |(refine .inr ?_;show _≤_∧_≤_;omega)
theorem Et (s:ByteArray) (lo hi:Int) (k1:ok .i64 lo) (k2:ok .i64 hi):ok .i64 (jM s lo hi).1∧ok .i64 (jM s lo hi).2:=by
 have e1:IntKind.i64.min = -9223372036854775808:=by decide
 have e2:IntKind.i64.max=9223372036854775807:=by decide
 have hz:=AA s lo hi
 have h0 :(jM s lo hi).2=0∨(jM s lo hi).2=2∨(jM s lo hi).2=4:=by
  unfold jM
  repeat' split
  all_goals simp
 unfold ok at *
 rw [e1,e2] at k1 k2 ⊢
 constructor
 ·rcases hz with hz|hz <;> omega
 ·rcases h0 with hz|hz|hz <;> omega
theorem rA {w:World} {b:Nat} {p:Obj→Prop} (h:jz w fun _=>False) (hm :(b,p)∈GL) (hp :∀ o,p o→px o):ErrCell w b:=by
 obtain ⟨⟨o,h1,h2⟩,_⟩:=h (b,p) hm
 exact ⟨o,h1,hp o h2⟩
abbrev Ji:Ty:= .prod .str (.prod (.int .i64) (.prod (.int .i64) .unit))
def EL:Den Ji→PRes:=fun x=>⟨[],.tup [.int .i64 (jM x.1 x.2.1 x.2.2.1).1,.int .i64 (jM x.1 x.2.1 x.2.2.1).2],[]⟩
def sq:FuncId×Ctr:=(73,aM KE Ji EL)
theorem ql {w w':World} (h:Below w.heap.size w w'):Keeps w (fun _=>False) w':=
 ⟨h.os,h.tape,h.output,h.size,fun b hb _=>h.block b hb⟩
set_option maxHeartbeats 1600000 in
theorem wa:CtrOK Tryz.prog KE 73 (aM KE Ji EL):=by
 refine oX Tryz.func73 (by kernel_rfl) (by kernel_rfl) (fun _=>⟨rfl,rfl⟩) (fun x av w E hw _ hg hav=>?_) (fun _ _=>rfl)
 obtain ⟨s,lo,hi,⟨⟩⟩:=x
 obtain ⟨a,r,rfl,⟨rfl,hs⟩,h1⟩:=bu hav
 obtain ⟨a,r,rfl,⟨rfl,k1⟩,h2⟩:=bu h1
 obtain ⟨a,r,rfl,⟨rfl,k2⟩,h3⟩:=bu h2
 have h5:r=[]:=by cases r with|nil=>rfl|cons=>simp [eQ,ab] at h3
 subst h5
 refine (x9 s lo hi w hs (rA hg (p:=px) (by unfold GL;simp) fun _ h=>h) (rA hg (p:=px) (by unfold GL;simp) fun _ h=>h)).mono fun e w' ⟨he,hB⟩=>⟨_,he,ql hB,fun E'=>?_⟩
 exact ⟨_,rfl,⟨rfl,(Et s lo hi k1 k2).1⟩,⟨rfl,(Et s lo hi k1 k2).2⟩,trivial⟩
end Go.Proofs.YtffdpnmioidloaaGreatDoor
namespace Go.Proofs.YtffdpnmioidloaaGreatDoor
open Go Go.Mir Go.RowKit Go.Shelf
def Aa:Go.Shelf.Ren:=⟨fun|146=>53|221=>112|268=>171|138=>172|143=>173|195=>215|197=>216|218=>217|219=>218|260=>259|217=>170|225=>260|224=>261|267=>262|266=>214|314=>294|n=>n,fun|9=>9|31=>76|3=>3|4=>4|0=>0|105=>264|21=>21|5=>5|46=>276|119=>318|139=>321|138=>320|146=>322|51=>299|n=>n,fun|1=>1|3=>4|4=>5|n=>n⟩
theorem lays146:Go.Proofs.LaysM.n146 Tryz.prog Aa where
 mixed:=by kernel_rfl
 f138:=Tryz.func172.trans (congrArg some (by kernel_rfl))
 f143:=Tryz.func173.trans (congrArg some (by kernel_rfl))
 f146:=Tryz.func53.trans (congrArg some (by kernel_rfl))
 f195:=Tryz.func215.trans (congrArg some (by kernel_rfl))
 f197:=Tryz.func216.trans (congrArg some (by kernel_rfl))
 f217:=Tryz.func170.trans (congrArg some (by kernel_rfl))
 f218:=Tryz.func217.trans (congrArg some (by kernel_rfl))
 f219:=Tryz.func218.trans (congrArg some (by kernel_rfl))
 f221:=Tryz.func112.trans (congrArg some (by kernel_rfl))
 f224:=Tryz.func261.trans (congrArg some (by kernel_rfl))
 f225:=Tryz.func260.trans (congrArg some (by kernel_rfl))
 f260:=Tryz.func259.trans (congrArg some (by kernel_rfl))
 f266:=Tryz.func214.trans (congrArg some (by kernel_rfl))
 f267:=Tryz.func262.trans (congrArg some (by kernel_rfl))
 f268:=Tryz.func171.trans (congrArg some (by kernel_rfl))
 f314:=Tryz.func294.trans (congrArg some (by kernel_rfl))
 t0:=Tryz.underlying0
 a0:=Tryz.isAgg0
 z0:=Tryz.sizeOf0
 v0:=Tryz.zeroValue0
 t3:=Tryz.underlying3
 a3:=Tryz.isAgg3
 z3:=Tryz.sizeOf3
 v3:=Tryz.zeroValue3
 t4:=Tryz.underlying4
 a4:=Tryz.isAgg4
 z4:=Tryz.sizeOf4
 v4:=Tryz.zeroValue4
 t5:=Tryz.underlying5
 a5:=Tryz.isAgg5
 z5:=Tryz.sizeOf5
 v5:=Tryz.zeroValue5
 t9:=Tryz.underlying9
 a9:=Tryz.isAgg9
 z9:=Tryz.sizeOf9
 v9:=Tryz.zeroValue9
 t21:=Tryz.underlying21
 a21:=Tryz.isAgg21
 z21:=Tryz.sizeOf21
 v21:=Tryz.zeroValue21
 t31:=Tryz.underlying76
 a31:=Tryz.isAgg76
 z31:=Tryz.sizeOf76
 v31:=Tryz.zeroValue76
 t46:=Tryz.underlying276
 a46:=Tryz.isAgg276
 z46:=Tryz.sizeOf276
 v46:=Tryz.zeroValue276
 t51:=Tryz.underlying299
 a51:=Tryz.isAgg299
 z51:=Tryz.sizeOf299
 v51:=Tryz.zeroValue299
 t105:=Tryz.underlying264
 a105:=Tryz.isAgg264
 z105:=Tryz.sizeOf264
 v105:=Tryz.zeroValue264
 t119:=Tryz.underlying318
 a119:=Tryz.isAgg318
 z119:=Tryz.sizeOf318
 t138:=Tryz.underlying320
 a138:=Tryz.isAgg320
 z138:=Tryz.sizeOf320
 v138:=Tryz.zeroValue320
 t139:=Tryz.underlying321
 a139:=Tryz.isAgg321
 z139:=Tryz.sizeOf321
 v139:=Tryz.zeroValue321
 t146:=Tryz.underlying322
 a146:=Tryz.isAgg322
 z146:=Tryz.sizeOf322
 v146:=Tryz.zeroValue322
 g1:=by kernel_rfl
 g3:=by kernel_rfl
 g4:=by kernel_rfl
 i0:=by kernel_rfl
 i3:=by kernel_rfl
 i4:=by kernel_rfl
 i5:=by kernel_rfl
 i9:=by kernel_rfl
 i21:=by kernel_rfl
 i31:=by kernel_rfl
 i46:=by kernel_rfl
 i51:=by kernel_rfl
 i105:=by kernel_rfl
 i138:=by kernel_rfl
 i139:=by kernel_rfl
 i146:=by kernel_rfl
 m1:=by kernel_rfl
 s1_3:=fun w h=>Go.Proofs.cell_of_shapedOpen_int (zero:=#[.int .i64 0]) (t:=3) h (of_decide_eq_true (by kernel_rfl)) (by kernel_rfl) rfl (by kernel_rfl) (by kernel_rfl) Tryz.underlying3
 m3:=by kernel_rfl
 m4:=by kernel_rfl
def cS (c:UInt8):List UInt8→List (List UInt8)
 | []=> [[]]
 | b::l=>if b==c then []::cS c l else match cS c l with | []=> [[b]]|x::r=>(b::x)::r
def toB (l:List UInt8):ByteArray:=⟨l.toArray⟩
def bX (s:ByteArray) (c:UInt8):List ByteArray:=(cS c s.data.toList).map toB
theorem xk (c:UInt8) :∀ l,cS c l≠ []
 | []=>by simp [cS]
 | b::l=>by
  unfold cS
  split
  ·simp
  ·split <;> simp
theorem nE {b c:UInt8} {l:List UInt8}:Lib.index (b::l) [c]=if b==c then 0 else if Lib.index l [c] == -1 then -1 else Lib.index l [c]+1:=by
 show (if List.isPrefixOf [c] (b::l) then _ else _)=_
 have:List.isPrefixOf [c] (b::l) =(b==c):=by
  show (c==b&&List.isPrefixOf [] l)=_
  rw [BEq.comm]
  simp [List.isPrefixOf]
 rw [this]
theorem om (c:UInt8) :∀ l,-1≤Lib.index l [c]
 | []=>by simp [Lib.index]
 | b::l=>by
  rw [nE]
  have:=om c l
  repeat' split
  all_goals omega
theorem uU (c:UInt8) :∀ l,Lib.index l [c] = -1→cS c l=[l]
 | [],_=>rfl
 | b::l,h=>by
  rw [nE] at h
  split at h
  ·cases h
  ·rename_i hb
   split at h
   ·rename_i h1
    have:=uU c l (beq_iff_eq.1 h1)
    unfold cS
    rw [if_neg hb,this]
   ·have:=om c l
    omega
theorem ze (c:UInt8) :∀ (l:List UInt8) (i:Nat),Lib.index l [c]=i→cS c l=l.take i::cS c (l.drop (i+1))
 | [],i,h=>by
  have:Lib.index [] [c] = -1:=rfl
  omega
 | b::l,i,h=>by
  rw [nE] at h
  split at h
  ·rename_i hb
   obtain rfl:i=0:=by omega
   show cS c (b::l)=[]::cS c l
   conv=>lhs;unfold cS
   rw [if_pos hb]
  ·rename_i hb
   split at h
   ·omega
   ·have h0:=om c l
    obtain ⟨j,rfl⟩ :∃ j,i=j+1:=⟨i - 1,by rename_i h1;have :¬ Lib.index l [c] = -1:=fun e=>h1 (beq_iff_eq.2 e);omega⟩
    have ih:=ze c l j (by omega)
    show cS c (b::l) =(b::l.take j)::cS c (l.drop (j+1))
    conv=>lhs;unfold cS
    rw [if_neg hb,ih]
theorem wE (c:UInt8) :∀ (k:Nat) (l:List UInt8),l.length<k→Lib.splitK [c] 0 (Lib.count l [c]) l=cS c l
 | 0,l,h=>absurd h (Nat.not_lt_zero _)
 | k+1,l,h=>by
  by_cases hm:Lib.index l [c] = -1
  ·rw [Lib.count_miss hm,uU c l hm];rfl
  ·obtain ⟨i,hi⟩ :∃ i:Nat,Lib.index l [c]=i:=⟨(Lib.index l [c]).toNat,by have:=om c l;omega⟩
   rw [Lib.count_hit (by simp) hi,ze c l i hi,Nat.add_comm]
   conv=>lhs;unfold Lib.splitK
   rw [if_neg (fun e=>hm (beq_iff_eq.1 e)),hi]
   show l.take i::Lib.splitK [c] 0 (Lib.count (l.drop (i+1)) [c]) (l.drop (i+1))=_
   rw [wE c k _ ?_]
   rw [List.length_drop]
   cases l with
   | nil=>exact absurd rfl hm
   | cons b t=>simp at h ⊢;omega
theorem tu (s:ByteArray) (c:UInt8):Lib.splitB ⟨#[c]⟩ 0 (Lib.countB s ⟨#[c]⟩) s=bX s c:=by
 have h:=Lib.splitB_data ⟨#[c]⟩ 0 (Lib.countB s ⟨#[c]⟩) s
 have h2:Lib.countB s ⟨#[c]⟩=Lib.count s.data.toList [c]:=rfl
 rw [h2] at h ⊢
 rw [wE c _ _ (Nat.lt_succ_self _)] at h
 unfold bX
 rw [←h,List.map_map]
 have :(toB ∘ fun x:ByteArray=>x.data.toList)=id:=by funext x;simp [toB]
 rw [this,List.map_id]
theorem uV (c:UInt8) :∀ (l:List UInt8),(cS c l).length≤l.length+1∧∀ x∈cS c l,x.length≤l.length
 | []=>by simp [cS]
 | b::l=>by
  obtain ⟨h1,h2⟩:=uV c l
  unfold cS
  split
  ·refine ⟨by simp;omega,fun x hx=>?_⟩
   rcases List.mem_cons.1 hx with rfl|hx
   ·simp
   ·have:=h2 x hx;simp;omega
  ·split
   ·simp
   ·rename_i x r he
    rw [he] at h1 h2
    refine ⟨by simp at h1 ⊢;omega,fun y hy=>?_⟩
    rcases List.mem_cons.1 hy with rfl|hy
    ·have:=h2 x List.mem_cons_self;simp;omega
    ·have:=h2 y (List.mem_cons_of_mem _ hy);simp;omega
theorem uT (s:ByteArray) (c:UInt8) :(bX s c).length≤s.size+1∧∀ x∈bX s c,x.size≤s.size:=by
 obtain ⟨h1,h2⟩:=uV c s.data.toList
 rw [Array.length_toList] at h1 h2
 refine ⟨by unfold bX;rw [List.length_map];exact h1,fun x hx=>?_⟩
 unfold bX at hx
 obtain ⟨y,hy,rfl⟩:=List.mem_map.1 hx
 have:=h2 y hy
 show (toB y).data.size≤s.data.size
 unfold toB
 rw [List.size_toArray]
 exact this
theorem rn (s:ByteArray) (c:UInt8):1≤(bX s c).length:=by
 unfold bX
 rw [List.length_map]
 cases h:cS c s.data.toList with
 | nil=>exact absurd h (xk _ _)
 | cons=>simp
abbrev Jj:Ty:= .prod .str (.prod .str .unit)
def O8:Den Jj→List Prop:=fun x=> [x.1.size≤1000000∧x.2.1.size=1]
def QM:Den Jj→List (Den .str):=fun x=>bX x.1 (x.2.1.data.toList.headD 0)
def JP:Den Jj→PRes:=fun x=>⟨O8 x,.osl 0 0,[⟨.str,QM x⟩]⟩
def HW:FuncId×Ctr:=(53,aM KE Jj JP)
theorem Bo (s:ByteArray) (c:UInt8) (w:World) (hs:s.size≤1000000) {m:Int} (hm:w.cell? ⟨1,0,none⟩=some (.int .i64 m)) :
  Calls Tryz.prog 53 #[.string s,.string ⟨#[c]⟩] w fun e w'=>∃ c1 T cap,e = .returned (.slice (some ⟨w.heap.size,0,none⟩) (bX s c).length cap)∧w'={ w with heap:=w.heap.push (.cells c1 T (0,0)) }∧
   c1.size=cap*sz .str∧(bX s c).length≤cap∧(bX s c).length≤au∧∀ (S:Nat→Prop) (i:Nat) (hi:i <(bX s c).length),Rd S w .str (bX s c)[i] (seg c1 (i*sz .str) (sz .str)):=by
 refine (Any.strings_Split { lays146 with } lays146.i9 s ⟨#[c]⟩ m w (by omega) hm (show 1≤1 by decide)).mono fun e w' ⟨he,hw'⟩=>?_
 rw [tu] at hw'
 have hlen:Lib.countB s ⟨#[c]⟩+1 =(bX s c).length:=by
  rw [←tu,Lib.splitB_all ⟨#[c]⟩ (show 1≤1 by decide) 0 _ s rfl]
 rw [hlen] at he
 obtain ⟨z1,z2⟩:=uT s c
 have hL :(2000000:Nat)≤au:=by decide
 refine ⟨_,_,_,he,hw',?_,Nat.le_refl _,?_,fun S i hi=>?_⟩
 ·simp [sz]
 ·show (bX s c).length≤au
  omega
 ·have hi:i <(bX s c).length:=hi
  have hseg:seg ((bX s c).map Value.string).toArray (i*sz .str) (sz .str)=[.string (bX s c)[i]]:=by
   show (((bX s c).map Value.string).drop (i*1)).take 1=_
   rw [Nat.mul_one,List.drop_eq_getElem_cons (by simpa using hi)]
   simp
  show Rd S w .str ((bX s c)[i]) (seg ((bX s c).map Value.string).toArray (i*sz .str) (sz .str))
  rw [hseg]
  have:=z2 _ (List.getElem_mem hi)
  exact Rd.str (by omega)
theorem Li:CtrOK Tryz.prog KE 53 (aM KE Jj JP):=by
 refine y8 (by decide) Tryz.func53 (by kernel_rfl) (by kernel_rfl) (by decide) (fun x av w E hw hn hg hav=>?_)
 obtain ⟨s,sep,⟨⟩⟩:=x
 obtain ⟨hs,hsep⟩:=hn _ List.mem_cons_self
 obtain ⟨a,r,rfl,⟨rfl,hs1⟩,h1⟩:=bu hav
 obtain ⟨a,r,rfl,⟨rfl,hs2⟩,h2⟩:=bu h1
 have h5:r=[]:=by cases r with|nil=>rfl|cons=>simp [eQ,ab] at h2
 subst h5
 obtain ⟨c,rfl⟩:=Lib.one_byte sep hsep
 have hm :∃ m,w.cell? ⟨1,0,none⟩=some (.int .i64 m):=by
  obtain ⟨⟨o,h1,m,T,fr,rfl⟩,_⟩:=hg (1,HQ) (by unfold GL;simp)
  exact ⟨m,by simp [World.cell?,h1]⟩
 obtain ⟨m,hm⟩:=hm
 have hs:s.size≤1000000:=hs
 exact Bo s c w hs hm
end Go.Proofs.YtffdpnmioidloaaGreatDoor
namespace Go.Proofs.YtffdpnmioidloaaGreatDoor
open Go Go.Mir
attribute [local irreducible] Go.Mir.DT.sat Go.Mir.evPat Go.Mir.RT.sat Go.Mir.evFn
abbrev Q2:List (Nat×PB):= [(0,.row 1 .str)]
abbrev qWd:Pat:=⟨[(0,.h .str),(1,.h U8),(5,.c (.osl 0 1)),(6,.h I),(7,.h I)],Q2,2⟩
abbrev xWd:List (Lf×Pat):= [(.ext 0,⟨[(5,.c (.osl 0 1))],Q2,2⟩)]
abbrev TWd:Type:=ByteArray×Int×Int×Int×List ByteArray×Unit
def Kv (l:List UInt8):List (List UInt8)→List ByteArray
 | []=> []
 | x::r=>toB (l++x)::r.map toB
def ji (s:ByteArray) (c a i:Int):List ByteArray:=if i >(s.size:Int) then [] else Kv ((s.data.toList.take i.toNat).drop a.toNat) (cS (UInt8.ofNat c.toNat) (s.data.toList.drop i.toNat))
def sa (x:TWd):Prop:=x.1.size≤1000000∧(0≤x.2.1∧x.2.1<256)∧0≤x.2.2.1∧x.2.2.1≤x.2.2.2.1∧x.2.2.2.1≤(x.1.size:Int)+1∧(x.2.2.2.2.1.length:Int)≤x.2.2.2.1
def Aq (x:TWd):Nat:=((x.1.size:Int)+1 - x.2.2.2.1).toNat
def mg (x:TWd):List ByteArray×Unit:=(x.2.2.2.2.1++ji x.1 x.2.1 x.2.2.1 x.2.2.2.1,())
abbrev qSC:Pat:=dG [.str,U8]
abbrev LC:Pat:=dG [.slice .str]
def De:Den (tyP qSC)→List Prop×Den (tyP LC):=fun x=>([x.1.size≤1000000],(bX x.1 (UInt8.ofNat x.2.1.toNat),()))
theorem Qv {n:Int} (h:wfD (.int .u8) n):0≤n∧n≤255:=by
 obtain ⟨S,w,cs,h⟩:=h
 cases h with|int h=>exact h
theorem y9 :∀ L,Kv [] L=L.map toB
 | []=>rfl
 | _::_=>rfl
theorem yL (s:ByteArray) (a i:Nat):toB ((s.data.toList.take i).drop a)=s.extract a i:=by
 apply ByteArray.ext
 apply Array.ext'
 show ((s.data.toList.take i).drop a)=_
 rw [Lib.extract_data]
 simp [Array.toList_extract,List.extract_eq_take_drop,List.drop_take]
theorem eqC {c:Int} (b:UInt8) (h0:0≤c) (h1:c<256) :((b.toNat:Int)==c) =(b==UInt8.ofNat c.toNat):=by
 apply Bool.eq_iff_iff.2
 simp only [beq_iff_eq]
 constructor
 ·intro h
  have:c.toNat=b.toNat:=by omega
  rw [this];simp
 ·rintro rfl
  have:c.toNat<256:=by omega
  simp [UInt8.toNat_ofNat']
  omega
theorem JX (s:ByteArray) (c a:Int):ji s c a (s.size:Int)=[s.extract a.toNat s.size]:=by
 unfold ji
 rw [if_neg (by omega)]
 have:s.data.toList.drop (s.size:Int).toNat=[]:=by
  apply List.drop_eq_nil_of_le
  rw [Array.length_toList]
  exact Nat.le_of_eq (by show s.data.size =(s.size:Int).toNat;rw [Int.toNat_natCast];rfl)
 rw [this]
 show [toB (_++[])]=_
 rw [List.append_nil,yL,Int.toNat_natCast]
theorem wI (s:ByteArray) (c a:Int):ji s c a ((s.size:Int)+1)=[]:=if_pos (by omega)
theorem Gy (s:ByteArray) {c a i:Int} (h0:0≤a) (h1:a≤i) (h2:i<s.size) :
  ji s c a i=if s.data.getD i.toNat 0==UInt8.ofNat c.toNat then s.extract a.toNat i.toNat::ji s c (i+1) (i+1) else ji s c a (i+1):=by
 obtain ⟨n,rfl⟩ :∃ n:Nat,i=n:=⟨i.toNat,by omega⟩
 obtain ⟨m,rfl⟩ :∃ m:Nat,a=m:=⟨a.toNat,by omega⟩
 have hn:n<s.data.toList.length:=by rw [Array.length_toList];show n<s.size;omega
 have hb:s.data.getD (n:Int).toNat 0=s.data.toList[n]:=by
  rw [Int.toNat_natCast]
  have:n<s.data.size:=by rw [Array.length_toList] at hn;exact hn
  exact dif_pos this
 have e1 :((n:Int)+1).toNat=n+1:=by omega
 have tw :∀ x y:Int,y≤(s.size:Int)→ji s c x y=Kv ((s.data.toList.take y.toNat).drop x.toNat) (cS (UInt8.ofNat c.toNat) (s.data.toList.drop y.toNat)):=fun x y h=>if_neg (by omega)
 rw [tw _ _ (by omega),tw _ _ (by omega),tw _ _ (by omega),hb,e1,Int.toNat_natCast,Int.toNat_natCast,List.drop_eq_getElem_cons hn]
 generalize hg:s.data.toList[n]=b
 conv=>lhs;unfold cS
 split
 ·have :(s.data.toList.take (n+1)).drop (n+1)=[]:=List.drop_eq_nil_of_le (List.length_take_le _ _)
  rw [this,y9]
  show toB (_++[])::_=_
  rw [List.append_nil,yL]
 ·have :(s.data.toList.take (n+1)).drop m =(s.data.toList.take n).drop m++[b]:=by
   rw [List.take_succ_eq_append_getElem hn,List.drop_append_of_le_length (by rw [List.length_take];omega),hg]
  rw [this]
  split
  ·rename_i h;exact absurd h (xk _ _)
  ·simp [Kv, *]
noncomputable def lpWd:Lp:=(⟨0,aA [] Tryz.f61,(fun _=>none),(ao Tryz.f61 0),qWd,xWd⟩:Lp)
theorem Qj (s:ByteArray) (c:Int) (a:Int) (i:Int) (o:List ByteArray) (hi:sa (s,c,a,i,o,())) :(Go.Mir.stepG lpWd mg (fun y:Den (tyP lpWd.q)=>sa y∧Aq y<Aq (s,c,a,i,o,())) (s,c,a,i,o,())∧Go.Mir.stepE lpWd mg (s,c,a,i,o,())=mg (s,c,a,i,o,())):=by
 refine cast (by kernel_rfl) (?_:let r1:Int:=IntKind.i64.wrap (i +(1:Int));let r2:Bool:=decide (i≤(↑s.size:Int));let r3:Bool:=bif i ==(↑s.size:Int) then true else (↑(s.1.getD i.toNat (0:UInt8)).toNat:Int)==c;let r4:List ByteArray×PUnit:=bif r3 then mg (s,c,r1,r1,o++[s.extract a.toNat i.toNat],()) else mg (s,c,a,r1,o,());((r2=true→(((i ==(↑s.size:Int))=true→True)∧((i ==(↑s.size:Int))=false→((0:Int)≤i∧i <(↑s.size:Int))∧True))∧(true=true→(r3=true→((0:Int)≤a∧a≤i∧i≤(↑s.size:Int))∧(o.length+[s.extract a.toNat i.toNat].length) *(16:Nat)≤(70368744177664:Nat)∧sa (s,c,r1,r1,o++[s.extract a.toNat i.toNat],())∧Aq (s,c,r1,r1,o++[s.extract a.toNat i.toNat],())<Aq (s,c,a,i,o,()))∧(r3=false→sa (s,c,a,r1,o,())∧Aq (s,c,a,r1,o,())<Aq (s,c,a,i,o,()))))∧(r2=false→True))∧(bif r2 then bif true&&true then r4 else bif true then r4 else bif i ==(↑s.size:Int) then dflt (Ty.str.slice.prod Ty.unit) else dflt (Ty.str.slice.prod Ty.unit) else (o,()))=mg (s,c,a,i,o,()))
 intro r1 r2 r3 r4
 clear_value (hr1:r1=_) (hr2:r2=_) (hr3:r3=_) (hr4:r4=_)
 obtain ⟨h1,⟨h2,h3⟩,h4,h5,h6,h7⟩:=hi
 simp only at h1 h2 h3 h4 h5 h6 h7
 by_cases h:i≤(s.size:Int)
 ·have er2:r2=true:=by rw [hr2];exact decide_eq_true h
  have ew:r1=i+1:=by rw [hr1];exact wrap64 (by omega) (by omega)
  have el :(o++[s.extract a.toNat i.toNat]).length=o.length+1:=by rw [List.length_append];rfl
  have key:ji s c a i=if r3 then s.extract a.toNat i.toNat::ji s c (i+1) (i+1) else ji s c a (i+1):=by
   by_cases he:i=s.size
   ·have:r3=true:=by rw [hr3,he];simp
    rw [this,he,if_pos rfl,JX,wI,Int.toNat_natCast]
   ·rw [Gy s h4 h5 (by omega),hr3,eqC _ h2 h3]
    have :(i ==(s.size:Int))=false:=by simpa using he
    rw [this]
    rfl
  have hlt :(i ==(s.size:Int))=false→i<s.size:=fun he=>by
   have :¬ i =(s.size:Int):=by simpa using he
   omega
  rw [er2]
  refine ⟨⟨fun _=>⟨⟨fun _=>trivial,fun he=>⟨⟨by omega,hlt he⟩,trivial⟩⟩,fun _=>⟨fun h3'=>⟨⟨h4,h5,h⟩,by simp only [List.length_cons,List.length_nil];omega,⟨h1,⟨h2,h3⟩,?_,?_,?_,?_⟩,?_⟩,fun _=>⟨⟨h1,⟨h2,h3⟩,h4,?_,?_,?_⟩,?_⟩⟩⟩,fun z=>Bool.noConfusion z⟩,?_⟩
  all_goals (try simp only [Aq,el,ew])
  all_goals (try omega)
  rw [hr4]
  simp only [cond_true,Bool.and_true]
  simp only [mg,ew,key]
  cases r3
  ·rfl
  ·simp
 ·have er2:r2=false:=by rw [hr2];exact decide_eq_false h
  rw [er2]
  refine ⟨⟨fun z=>Bool.noConfusion z,fun _=>trivial⟩,?_⟩
  have:i =(s.size:Int)+1:=by omega
  simp only [cond_false,mg]
  rw [this,wI,List.append_nil]
noncomputable def Nw:LoopSum:=ah lpWd mg sa
noncomputable def MQ:Nat:=rid (ao Tryz.f61 0)
theorem O2:LoopOKp Tryz.prog 0 Tryz.f61.ntmps (ao Tryz.f61 0) (ah lpWd mg sa):=
 ax lpWd (an (CtrsOK.nil) _) mixed (fun b hb S hS=>by cases hS) mg sa Aq (fun |⟨s,c,a,i,o,⟨⟩⟩,hi=>Qj s c a i o hi)
theorem Bh (s:ByteArray) (c:Int) (hs:s.size≤1000000) (hc:0≤c∧c≤255) :(evPat (aA [] Tryz.f61) (find [(MQ,Nw)]) Tryz.f61 qSC LC (s,c,())).sat fun z_=>z_ =(De (s,c,())).2:=by
 refine cast (by kernel_rfl) (?_ :((cY fun x=>none)∧s.size≤(1000000:Nat)∧((0:Int)≤c∧c <(256:Int))∧(0:Int)≤(0:Int)∧(0:Int)≤(0:Int)∧(0:Int)≤(↑s.size:Int) +(1:Int)∧(↑(0:Nat):Int)≤(0:Int))∧([]++ji s c (0:Int) (0:Int),()) =(bX s (UInt8.ofNat c.toNat),()))
 refine ⟨⟨rfl,hs,⟨hc.1,by omega⟩,Int.le_refl _,Int.le_refl _,by omega,Int.le_refl _⟩,?_⟩
 have:ji s c 0 0=bX s (UInt8.ofNat c.toNat):=by
  unfold ji bX
  rw [if_neg (by omega)]
  exact y9 _
 rw [this]
 rfl
def pB:FuncId×Ctr:=(61,ag KE qSC LC De)
theorem sO:CtrOK Tryz.prog KE 61 (ag KE qSC LC De):=by
 refine aZ (C:=aA [] Tryz.f61) (an (CtrsOK.nil) _) mixed (fn:=Tryz.f61) Tryz.func61 (by kernel_rfl) (by kernel_rfl) (by kernel_rfl) (by kernel_rfl) (by kernel_rfl) (by kernel_rfl) (Λ:=fun x=>find [(MQ,Nw)]) ?_ ?_
 ·rintro ⟨s,c,⟨⟩⟩ hw hn
  exact LoopsOKp.at (by kernel_rfl) (.cons (by kernel_rfl) (O2) .nil)
 ·rintro ⟨s,c,⟨⟩⟩ hw hn
  exact Bh s c (hn _ List.mem_cons_self) (Qv (gG (yQ hw)))
end Go.Proofs.YtffdpnmioidloaaGreatDoor
namespace Go.Proofs.YtffdpnmioidloaaGreatDoor
open Go Go.Mir
attribute [local irreducible] Go.Mir.DT.sat Go.Mir.evPat Go.Mir.RT.sat Go.Mir.evFn
abbrev qTn:Pat:=dG [I]
abbrev qTw:Pat:=dG [I,I]
abbrev A3:Pat:=dG [.str]
def FW (n:Int):Prop:=0≤n∧n≤1000000000000
def Po (w:Int):Prop:=w=1
def JL:Den (tyP qTw)→List Prop×Den (tyP A3):=fun x=>([FW x.1,Po x.2.1],(aQ x.1,()))
def JD:Den (tyP qTn)→List Prop×Den (tyP A3):=fun x=>([FW x.1],(aQ x.1,()))
abbrev qPt:Pat:=⟨[(1,.h I),(5,.h .str),(6,.h (.int .u64)),(7,.h .str),(8,.h .str)],[],0⟩
abbrev xPt:List (Lf×Pat):= [(.ext 0,⟨[(5,.h .str),(8,.h .str)],[],0⟩)]
abbrev TPt:Type:=Int×ByteArray×Int×ByteArray×ByteArray×Unit
def tenB:ByteArray:=⟨#[48,49,50,51,52,53,54,55,56,57]⟩
def yc (n:Int):ByteArray:=tenB.extract n.toNat (n+1).toNat
def sT (u:Int) (s:ByteArray):ByteArray:=if decide (u>0)||decide ((s.size:Int)<1) then toB (Lib.decDigits u.toNat++s.data.toList) else s
def vq (x:TPt):Prop:=x.1=1∧(0≤x.2.2.1∧x.2.2.1≤1000000000000)∧x.2.2.2.1=tenB∧(x.2.2.2.2.1.size:Int)+x.2.2.1≤2000000000000
def IB (x:TPt):Nat:=x.2.2.1.toNat +(if x.2.2.2.2.1.size=0 then 1 else 0)
def qA (x:TPt):ByteArray×ByteArray×Unit:=(x.2.1,sT x.2.2.1 x.2.2.2.2.1,())
theorem w5 {a b:ByteArray} (h:a.data.toList=b.data.toList):a=b:=ByteArray.ext (Array.toList_inj.1 h)
theorem wO {n:Int} (h0:0≤n) (h1:n<18446744073709551616):IntKind.u64.wrap n=n:=by
 simp only [IntKind.wrap,IntKind.bits,IntKind.signed]
 simp
 omega
theorem wb {n:Int} (h0:0≤n) (h1:n≤9) :(yc n).data.toList=[UInt8.ofNat (48+n.toNat)]:=by
 have key :((List.range 10).all fun k=>(yc (k:Int)).data.toList==[UInt8.ofNat (48+k)])=true:=by kernel_rfl
 have:=List.all_eq_true.1 key n.toNat (List.mem_range.2 (by omega))
 rw [show ((n.toNat:Nat):Int)=n from by omega] at this
 exact eq_of_beq this
theorem wc {n:Int} (h0:0≤n) (h1:n≤9) :(yc n).size=1:=by
 have :(yc n).data.toList.length=1:=by rw [wb h0 h1];rfl
 rw [Array.length_toList] at this
 exact this
theorem Jd {u:Int} {s:ByteArray} (h0:0≤u) (hb :(decide (u>0)||decide ((s.size:Int)<1))=true):sT (u / 10) (yc (u % 10)++s)=sT u s:=by
 have z :(yc (u % 10)++s).size=1+s.size:=by rw [ByteArray.size_append,wc (by omega) (by omega)]
 have l :(yc (u % 10)++s).data.toList=UInt8.ofNat (48 +(u % 10).toNat)::s.data.toList:=by
  rw [ByteArray.data_append,Array.toList_append,wb (by omega) (by omega)];rfl
 have hd:decide (((yc (u % 10)++s).size:Int)<1)=false:=decide_eq_false (by rw [z];omega)
 unfold sT
 rw [hd,Bool.or_false,if_pos hb]
 by_cases h10:u / 10>0
 ·rw [if_pos (decide_eq_true h10),l]
  have hu :¬ u.toNat<10:=by omega
  have e1 :(u / 10).toNat=u.toNat / 10:=by omega
  have e2 :(u % 10).toNat=u.toNat % 10:=by omega
  conv=>rhs;rw [Lib.decDigits,dif_neg hu]
  rw [e1,e2,List.append_assoc]
  rfl
 ·rw [if_neg (by simpa using h10)]
  apply w5
  rw [l]
  have hu:u.toNat<10:=by omega
  have e2 :(u % 10).toNat=u.toNat:=by omega
  rw [Lib.decDigits,dif_pos hu,e2]
  rfl
noncomputable def lpPt:Lp:=(⟨0,aA [] Tryz.f121,(fun _=>none),(ao Tryz.f121 0),qPt,xPt⟩:Lp)
theorem P5 (w:Int) (sg:ByteArray) (u:Int) (dg:ByteArray) (s:ByteArray) (hi:vq (w,sg,u,dg,s,())) :(Go.Mir.stepG lpPt qA (fun y:Den (tyP lpPt.q)=>vq y∧IB y<IB (w,sg,u,dg,s,())) (w,sg,u,dg,s,())∧Go.Mir.stepE lpPt qA (w,sg,u,dg,s,())=qA (w,sg,u,dg,s,())):=by
 refine cast (by kernel_rfl) (?_:let r1:Int:=IntKind.u64.wrap (u.tmod (10:Int) +(1:Int));let r2:Int:=if (20:Int)<w then (20:Int) else w;let r3:ByteArray:=dg.extract (u.tmod (10:Int)).toNat r1.toNat;let r4:Int:=if r2 >(1:Int) then r2 else (1:Int);let r5:Bool:=bif decide (u >(0:Int)) then true else decide ((↑s.size:Int)<r4);((r5=true→(10:Int)≠(0:Int)∧(10:Int)≠(0:Int)∧((0:Int)≤u.tmod (10:Int)∧u.tmod (10:Int)≤r1∧r1≤(↑dg.size:Int))∧r3.size+s.size≤au∧(10:Int)≠(0:Int)∧vq (w,sg,IntKind.u64.wrap (u.tdiv (10:Int)),dg,r3++s,())∧IB (w,sg,IntKind.u64.wrap (u.tdiv (10:Int)),dg,r3++s,())<IB (w,sg,u,dg,s,()))∧(r5=false→True))∧(bif r5 then qA (w,sg,IntKind.u64.wrap (u.tdiv (10:Int)),dg,r3++s,()) else (sg,s,()))=qA (w,sg,u,dg,s,()))
 intro r1 r2 r3 r4 r5
 clear_value (hr1:r1=_) (hr2:r2=_) (hr3:r3=_) (hr4:r4=_) (hr5:r5=_)
 obtain ⟨h1,⟨h2,h3⟩,h4,h5⟩:=hi
 have h1:w=1:=h1
 have h2:0≤u:=h2
 have h3:u≤1000000000000:=h3
 have h4:dg=tenB:=h4
 have h5 :(s.size:Int)+u≤2000000000000:=h5
 have et:u.tmod 10=u % 10:=Int.tmod_eq_emod_of_nonneg h2
 have ed:u.tdiv 10=u / 10:=Int.tdiv_eq_ediv_of_nonneg h2
 rw [ed]
 rw [et] at hr1 hr3 ⊢
 have e1:r1=u % 10+1:=by rw [hr1];exact wO (by omega) (by omega)
 have e2:r2=1:=by rw [hr2,h1];rfl
 have e4:r4=1:=by rw [hr4,e2];rfl
 have e3:r3=yc (u % 10):=by rw [hr3,e1,h4];rfl
 have z3:=wc (n:=u % 10) (by omega) (by omega)
 have zs :(r3++s).size=1+s.size:=by rw [ByteArray.size_append,e3,z3]
 have eW:IntKind.u64.wrap (u / 10)=u / 10:=wO (by omega) (by omega)
 have hL :(3000000000000:Nat)≤au:=by decide
 have e5:r5 =(decide (u>0)||decide ((s.size:Int)<1)):=by rw [hr5,e4];cases decide (u>0) <;> rfl
 have hc:r5=true→u>0∨(s.size:Int)<1:=fun h=>by rw [e5] at h;simpa using h
 have z10 :(tenB.size:Int)=10:=rfl
 rw [eW]
 refine ⟨⟨fun h=>⟨by decide,by decide,⟨by omega,by omega,by rw [h4];omega⟩,by rw [e3,z3];omega,by decide,⟨h1,⟨by show 0≤u / 10;omega,by show u / 10≤1000000000000;omega⟩,h4,?_⟩,?_⟩,fun _=>trivial⟩,?_⟩
 ·show ((r3++s).size:Int)+u / 10≤2000000000000
  rw [zs]
  rcases hc h with h|h <;> omega
 ·show (u / 10).toNat +(if (r3++s).size=0 then 1 else 0)<u.toNat +(if s.size=0 then 1 else 0)
  rw [zs,if_neg (by omega)]
  rcases hc h with h|h
  ·omega
  ·rw [if_pos (by omega)];omega
 ·cases hb:r5 with
  | true=>
   show (sg,sT (u / 10) (r3++s),()) =(sg,sT u s,())
   rw [e3,Jd h2 (e5▸hb)]
  | false=>
   rw [e5] at hb
   show (sg,s,()) =(sg,sT u s,())
   unfold sT
   rw [hb]
   rfl
noncomputable def Ni:LoopSum:=ah lpPt qA vq
noncomputable def MD:Nat:=rid (ao Tryz.f121 0)
theorem OP:LoopOKp Tryz.prog 0 Tryz.f121.ntmps (ao Tryz.f121 0) (ah lpPt qA vq):=
 ax lpPt (an (CtrsOK.nil) _) mixed (fun b hb S hS=>by cases hS) qA vq IB (fun |⟨w,sg,u,dg,s,⟨⟩⟩,hi=>P5 w sg u dg s hi)
theorem Bi (n:Int) (w:Int) (hk:FW n) (hw1:Po w) :(evPat (aA [] Tryz.f121) (find [(MD,Ni)]) Tryz.f121 qTw A3 (n,w,())).sat fun z_=>z_ =(JL (n,w,())).2:=by
 refine cast (by kernel_rfl) (?_:let r1:Bool:=decide (n <(0:Int));let r2:ByteArray:=bif r1 then ByteArray.mk #[45] else ByteArray.mk #[];let r3:Int:=bif r1 then IntKind.u64.wrap ((0:Int) - IntKind.u64.wrap n) else IntKind.u64.wrap n;let r4:ByteArray:=sT r3 (ByteArray.mk #[]);((cY fun x=>none)∧w =(1:Int)∧((0:Int)≤r3∧r3≤(1000000000000:Int))∧ByteArray.mk #[48,49,50,51,52,53,54,55,56,57]=tenB∧(↑(ByteArray.mk #[]).size:Int)+r3≤(2000000000000:Int))∧r2.size+r4.size≤au∧(r2++r4,()) =(aQ n,()))
 intro r1 r2 r3 r4
 clear_value (hr1:r1=_) (hr2:r2=_) (hr3:r3=_) (hr4:r4=_)
 obtain ⟨k0,k1⟩:=hk
 have e1:r1=false:=by rw [hr1];exact decide_eq_false (by omega)
 have e2:r2=ByteArray.mk #[]:=by rw [hr2,e1];rfl
 have e3:r3=n:=by rw [hr3,e1];exact wO k0 (by omega)
 have hz:sT n ⟨#[]⟩=aQ n:=by
  unfold sT aQ
  rw [if_pos (Bool.or_eq_true_iff.2 (.inr (by decide))),Lib.itoa,if_neg (by omega)]
  simp [toB]
 have e4:r4=aQ n:=by rw [hr4,e3];exact hz
 have hl :(aQ n).size≤21:=by
  show (Lib.itoa n).toArray.size≤21
  rw [List.size_toArray]
  exact Lib.itoa_length_le n (by omega) (by omega)
 have hL :(500:Nat)≤au:=by decide
 have z0 :(ByteArray.mk #[]).size=0:=rfl
 rw [e2,e3,e4,z0]
 exact ⟨⟨rfl,hw1,⟨k0,k1⟩,rfl,by omega⟩,by omega,congrArg (fun z=>(z,())) (w5 (by simp [ByteArray.data_append]))⟩
def vL:FuncId×Ctr:=(121,ag KE qTw A3 JL)
theorem CD:CtrOK Tryz.prog KE 121 (ag KE qTw A3 JL):=by
 refine aZ (C:=aA [] Tryz.f121) (an (CtrsOK.nil) _) mixed (fn:=Tryz.f121) Tryz.func121 (by kernel_rfl) (by kernel_rfl) (by kernel_rfl) (by kernel_rfl) (by kernel_rfl) (by kernel_rfl) (Λ:=fun x=>find [(MD,Ni)]) ?_ ?_
 ·rintro ⟨n,w,⟨⟩⟩ hw hn
  exact LoopsOKp.at (by kernel_rfl) (.cons (by kernel_rfl) (OP) .nil)
 ·rintro ⟨n,w,⟨⟩⟩ hw hn
  exact Bi n w (hn _ List.mem_cons_self) (hn _ (List.mem_cons_of_mem _ List.mem_cons_self))
theorem yu (n:Int) (hk:FW n) :(evPat (aA [vL] Tryz.f71) (fun _=>none) Tryz.f71 qTn A3 (n,())).sat fun z_=>z_ =(JD (n,())).2:=by
 refine cast (by kernel_rfl) (?_:FW n∧Po (1:Int)∧(aQ n,()) =(aQ n,()))
 exact ⟨hk,rfl,rfl⟩
def nF:FuncId×Ctr:=(71,ag KE qTn A3 JD)
theorem qq:CtrOK Tryz.prog KE 71 (ag KE qTn A3 JD):=by
 refine aZ (C:=aA [vL] Tryz.f71) (an (.consU CD rfl .nil) _) mixed (fn:=Tryz.f71) Tryz.func71 (by kernel_rfl) (by kernel_rfl) (by kernel_rfl) (by kernel_rfl) (by kernel_rfl) (by kernel_rfl) (Λ:=fun _ _=>none) ?_ ?_
 ·exact fun _ _ _ _ _ _ _ _ h=>by cases h
 ·rintro ⟨n,⟨⟩⟩ hw hn
  exact yu n (hn _ List.mem_cons_self)
end Go.Proofs.YtffdpnmioidloaaGreatDoor
namespace Go.Proofs.YtffdpnmioidloaaGreatDoor
open Go Go.Mir Go.RowKit Go.Shelf
def zZ:Go.Shelf.Ren:=⟨fun|137=>108|217=>170|266=>214|n=>n,fun|9=>9|5=>5|3=>3|n=>n,fun|n=>n⟩
theorem KY:Go.Proofs.Lays.n137 Tryz.prog zZ where
 mixed:=by kernel_rfl
 f137:=Tryz.func108.trans (congrArg some (by kernel_rfl))
 f217:=Tryz.func170.trans (congrArg some (by kernel_rfl))
 f266:=Tryz.func214.trans (congrArg some (by kernel_rfl))
 t3:=Tryz.underlying3
 a3:=Tryz.isAgg3
 z3:=Tryz.sizeOf3
 v3:=Tryz.zeroValue3
 t5:=Tryz.underlying5
 a5:=Tryz.isAgg5
 z5:=Tryz.sizeOf5
 v5:=Tryz.zeroValue5
 t9:=Tryz.underlying9
 a9:=Tryz.isAgg9
 z9:=Tryz.sizeOf9
 v9:=Tryz.zeroValue9
attribute [local go_sem] Oper.semAt_some
theorem Bu (s:ByteArray) (a i:Nat):toB ((s.data.toList.take i).drop a)=s.extract a i:=by
 apply ByteArray.ext
 apply Array.ext'
 show ((s.data.toList.take i).drop a)=_
 rw [Lib.extract_data]
 simp [Array.toList_extract,List.extract_eq_take_drop,List.drop_take]
def fb (l:List UInt8):Nat:=if 0≤Lib.indexByte l 10 then (Lib.indexByte l 10).toNat+1 else l.length
def iq:Nat→List UInt8→List (List UInt8)
 | 0,_=> []
 | k+1,l=>if l.isEmpty then [] else l.take (fb l)::iq k (l.drop (fb l))
def bl (s:ByteArray):List ByteArray:=(iq (s.size+1) s.data.toList).map toB
theorem pE {l:List UInt8} (h:l≠ []):1≤fb l:=by
 unfold fb
 split
 ·omega
 ·have:=List.length_pos_iff.2 h;omega
theorem qo :∀ (k k':Nat) (l:List UInt8),l.length<k→l.length<k'→iq k l=iq k' l
 | 0,_,_,h,_=>absurd h (Nat.not_lt_zero _)
 | _+1,0,_,_,h=>absurd h (Nat.not_lt_zero _)
 | k+1,k'+1,l,h1,h2=>by
  unfold iq
  split
  ·rfl
  ·rename_i hne
   have hne:l≠ []:=fun e=>hne (by rw [e];rfl)
   have:=pE hne
   have:=List.length_pos_iff.2 hne
   rw [qo k k' _ (by rw [List.length_drop];omega) (by rw [List.length_drop];omega)]
theorem nH {s:ByteArray} (h:s.size=0):bl s=[]:=by
 unfold bl
 have:s.data.toList=[]:=List.eq_nil_of_length_eq_zero (by rw [Array.length_toList];exact h)
 rw [this]
 rfl
theorem qn {s:ByteArray} (h:0<s.size):bl s=s.extract 0 (fb s.data.toList)::bl (s.extract (fb s.data.toList) s.size):=by
 have hl:s.data.toList.length=s.size:=by rw [Array.length_toList];rfl
 have hne:s.data.toList≠ []:=fun e=>by rw [e] at hl;simp at hl;omega
 have hp:=pE hne
 have e1:toB (s.data.toList.take (fb s.data.toList))=s.extract 0 (fb s.data.toList):=by rw [←Bu];rfl
 have e2 :(s.extract (fb s.data.toList) s.size).data.toList=s.data.toList.drop (fb s.data.toList):=by
  rw [←Bu]
  show (s.data.toList.take s.size).drop _=_
  rw [List.take_of_length_le (by omega)]
 have z2 :(s.extract (fb s.data.toList) s.size).size=s.size - fb s.data.toList:=by rw [ByteArray.size_extract];omega
 unfold bl
 rw [e2]
 conv=>lhs;unfold iq
 rw [if_neg (by simpa using hne)]
 rw [List.map_cons,e1,z2]
 rw [qo s.size (s.size - fb s.data.toList+1) _ (by rw [List.length_drop];omega) (by rw [List.length_drop];omega)]
end Go.Proofs.YtffdpnmioidloaaGreatDoor
namespace Go.Proofs.YtffdpnmioidloaaGreatDoor
open Go Go.Mir Go.RowKit Go.Shelf
attribute [local go_sem] Oper.semAt_some
def w2 (bx:Nat) (w:World):Nat:=match w.cell? ⟨bx,0,none⟩ with|some (.string z)=>z.size|_=>0
theorem GE {n:Int} (h0:0≤n) (h1:n≤2000000):RowKit.wrap64 n=n:=by
 unfold RowKit.wrap64
 omega
set_option maxRecDepth 100000 in
set_option maxHeartbeats 2000000 in
theorem Ia (n l bx:Nat) (s0:ByteArray) (hs0:s0.size≤1000000) (J Jx:List ByteArray→World→Prop)
  (hsetJ :∀ pre W v,J pre W→J pre (W.setCell ⟨bx,0,none⟩ v)) (hdrw :∀ pre (W:World),J pre W→J pre { W with drawn:=W.drawn+1 })
  (hY :∀ pre x W,J pre W→x.size≤s0.size→(pre++[x]) <+: bl s0→YieldAt Fence.wide (n - 1) Tryz.prog l #[.string x] W fun e W'=>
   (e = .returned (.bool true)∧J (pre++[x]) W'∧W'.cell? ⟨bx,0,none⟩=W.cell? ⟨bx,0,none⟩∧W'.frozen? ⟨bx,0,none⟩=W.frozen? ⟨bx,0,none⟩)∨(e = .returned (.bool false)∧Jx (pre++[x]) W'))
  (W:World) (hb:W.cell? ⟨bx,0,none⟩=some (.string s0)) (hf:W.frozen? ⟨bx,0,none⟩=false) (h0:J [] W) :
  CallsIn Fence.wide n Tryz.prog 107 #[.func (.yield l) #[] #[],.pointer (some ⟨bx,0,none⟩)] W fun e W'=>(∃ v,e = .returned v)∧(J (bl s0) W'∨∃ pre,pre <+: bl s0∧Jx pre W'):=by
 refine callsIn_of_wp Tryz.func107 rfl trivial ?_ rfl
 simp only [Tryz.ntmps107,List.size_toArray,List.length_cons,List.length_nil,Nat.reduceAdd,Nat.reduceSub,Array.replicate_succ,Array.replicate_zero,List.push_toArray,List.append_toArray,List.nil_append,List.cons_append]
 gi_wp2
 gi_loopw [3] (fun _ wr=>∃ (pre:List ByteArray) (z:ByteArray),wr.cell? ⟨bx,0,none⟩=some (.string z)∧wr.frozen? ⟨bx,0,none⟩=false∧z.size≤s0.size∧bl s0=pre++bl z∧J pre wr)
  (fun _ wr=>w2 bx wr)
 case atStart=>
  exact ⟨[],s0,hb,hf,Nat.le_refl _,rfl,h0⟩
 case round=>
  obtain ⟨pre,z,hc,hfr,hz,hl,hJs⟩:=hrel
  have hidx:=Any.strings_IndexByte KY z 10
  have mixed0:=mixed
  by_cases hz0:0<z.size
  ·have hzl :(z.size:Int)≤1000000:=by omega
   by_cases hi:0≤Lib.indexByte z.data.toList 10
   ·obtain ⟨i,hi'⟩ :∃ i:Nat,Lib.indexByte z.data.toList 10=i:=⟨(Lib.indexByte z.data.toList 10).toNat,by omega⟩
    have hlt:i<z.size:=by
     obtain ⟨h1,_⟩:=List.getElem?_eq_some_iff.1 (Lib.indexByte_some hi').1
     rw [Array.length_toList] at h1
     exact h1
    have hW:RowKit.wrap64 ((i:Int)+1) =(i:Int)+1:=GE (by omega) (by omega)
    have hidx :∀ w,Calls Tryz.prog 108 #[.string z,.int .u8 10] w fun e w'=>e = .returned (.int .i64 i)∧w'=w:=fun w=>by
     have:=hidx w
     rw [show ((10:Int).toNat.toUInt8)=10 from rfl,hi'] at this
     exact this
    have hb1 :(0:Int)≤(i:Int)+1:=by omega
    have hb2 :(i:Int)+1≤(z.size:Int):=by omega
    have hnn :(0:Int)≤(i:Int):=by omega
    gi_wp2_with (first |(refine ⟨trivial,fun h=>absurd h (by simp [Fence.wide]),?_⟩;gi_at_call 108;refine (callsIn_wide.2 (hidx _)).mono ?_;rintro e w' ⟨rfl,rfl⟩))
    gi_region
    have hJ1:J pre ((w'.setCell ⟨bx,0,none⟩ (.string (z.extract (i+1) z.size))).drew):=hdrw _ _ (hsetJ _ _ _ hJs)
    have hc1 :((w'.setCell ⟨bx,0,none⟩ (.string (z.extract (i+1) z.size))).drew).cell? ⟨bx,0,none⟩=some (.string (z.extract (i+1) z.size)):=World.cell?_setCell_same' _ _ _ (by rw [hc];rfl)
    have hf1 :((w'.setCell ⟨bx,0,none⟩ (.string (z.extract (i+1) z.size))).drew).frozen? ⟨bx,0,none⟩=false:=(World.frozen?_setCell ..).trans hfr
    have hN:fb z.data.toList=i+1:=by unfold fb;rw [hi',if_pos (by omega)];omega
    have hL:bl z=z.extract 0 (i+1)::bl (z.extract (i+1) z.size):=by rw [qn hz0,hN]
    obtain ⟨fn,tmps,assign,body,hy,hR⟩:=hY pre (z.extract 0 (i+1)) _ hJ1 (by rw [ByteArray.size_extract];omega) ⟨bl (z.extract (i+1) z.size),by rw [hl,hL];simp⟩
    gi_wp2
    refine ⟨fun h=>absurd h (by simp [Fence.wide]),hR.mono ?_⟩
    rintro e W3 (⟨rfl,hJ3,hc3,hf3⟩ |⟨rfl,hJx3⟩)
    ·gi_wp2
     go_roundw
     case rel=>exact ⟨pre++[z.extract 0 (i+1)],z.extract (i+1) z.size,hc3.trans hc1,hf3.trans hf1,by rw [ByteArray.size_extract];omega,by rw [hl,hL];simp,hJ3⟩
     case measure=>
      unfold w2
      rw [hc3,hc1,hc]
      simp only [ByteArray.size_extract]
      omega
    ·gi_wp2
     refine bodyPost_ret (results_none rfl _ _ _) rfl ?_
     exact ⟨⟨_,rfl⟩,.inr ⟨_,⟨bl (z.extract (i+1) z.size),by rw [hl,hL];simp⟩,hJx3⟩⟩
   ·have hi':Lib.indexByte z.data.toList 10 = -1:=by have:=Lib.indexByte_ge z.data.toList 10;omega
    have hidx :∀ w,Calls Tryz.prog 108 #[.string z,.int .u8 10] w fun e w'=>e = .returned (.int .i64 (-1))∧w'=w:=fun w=>by
     have:=hidx w
     rw [show ((10:Int).toNat.toUInt8)=10 from rfl,hi'] at this
     exact this
    have hN:fb z.data.toList=z.data.toList.length:=by unfold fb;rw [hi',if_neg (by omega)]
    have hzz:z.data.toList.length=z.size:=by rw [Array.length_toList];rfl
    have hL:bl z=[z]:=by
     rw [qn hz0,hN,hzz,nH (by rw [ByteArray.size_extract];omega)]
     rw [ByteArray.extract_zero_size]
    have hJ1 :∀ wr,J pre wr→J pre (wr.setCell ⟨bx,0,none⟩ (.string ⟨#[]⟩)):=fun wr h=>hsetJ _ _ _ h
    gi_wp2_with (first |(refine ⟨trivial,fun h=>absurd h (by simp [Fence.wide]),?_⟩;gi_at_call 108;refine (callsIn_wide.2 (hidx _)).mono ?_;rintro e w' ⟨rfl,rfl⟩))
    have hc1 :(w'.setCell ⟨bx,0,none⟩ (.string ⟨#[]⟩)).cell? ⟨bx,0,none⟩=some (.string ⟨#[]⟩):=World.cell?_setCell_same' _ _ _ (by rw [hc];rfl)
    have hf1 :(w'.setCell ⟨bx,0,none⟩ (.string ⟨#[]⟩)).frozen? ⟨bx,0,none⟩=false:=(World.frozen?_setCell ..).trans hfr
    obtain ⟨fn,tmps,assign,body,hy,hR⟩:=hY pre z _ (hJ1 _ hJs) hz ⟨[],by rw [hl,hL];simp⟩
    rw [hy]
    refine ⟨fun h=>absurd h (by simp [Fence.wide]),hR.mono ?_⟩
    rintro e W3 (⟨rfl,hJ3,hc3,hf3⟩ |⟨rfl,hJx3⟩)
    ·gi_wp2
     go_roundw
     case rel=>exact ⟨pre++[z],⟨#[]⟩,hc3.trans hc1,hf3.trans hf1,Nat.zero_le _,by rw [hl,hL,nH rfl];simp,hJ3⟩
     case measure=>
      unfold w2
      rw [hc3,hc1,hc]
      exact hz0
    ·gi_wp2
     refine bodyPost_ret (results_none rfl _ _ _) rfl ?_
     exact ⟨⟨_,rfl⟩,.inr ⟨_,⟨[],by rw [hl,hL];simp⟩,hJx3⟩⟩
  ·gi_wp2
   go_end0
   exact ⟨⟨_,rfl⟩,.inl (by rw [hl,nH (by omega),List.append_nil];exact hJs)⟩
end Go.Proofs.YtffdpnmioidloaaGreatDoor
namespace Go.Mir
open Go.RowKit
variable {P:Program}
abbrev RF (l:Nat):Fence:=Fence.wide.inRound l
def p7 (Q:Exit→Act→World→Prop):Prop:=¬ LetsOut Q
theorem Cz {K:Act→World→Prop} {Q:Exit→Act→World→Prop} (h:p7 Q):p7 (Exit.then K Q):=fun ⟨a,w,z⟩=>h ⟨a,w,z⟩
theorem Ay {id:Nat} {Q:Exit→Act→World→Prop} (h:p7 Q):p7 (Exit.inBlock id Q):=fun ⟨a,w,z⟩=>h ⟨a,w,z⟩
theorem LJ {l n:Nat} {row:String} {args:Array Value} {w:World} {R:Value→World→Prop} (h:Rows P row args w R):RowsIn (RF l) n P row args w R:=
 fun c cs _=>let ⟨v,w',r,s⟩:=h c cs;⟨v,w',r,stepsIn_wide.2 s⟩
theorem G7 {l n:Nat} {f:FuncId} {args:Array Value} {w:World} {R:Ending→World→Prop} (h:Calls P f args w R):CallsIn (RF l) n P f args w R:=
 CallsIn.inRound l (callsIn_wide.2 h)
theorem EX {l n:Nat} {o:Oper} (hd :∀ c,o.op≠ .defer c) {a:Act} {w:World} {next next':Act→World→Prop} {Q:Exit→Act→World→Prop}
  (hn :∀ a w,next a w→next' a w) (h:o.wp P a w next Q):o.wpIn (RF l) n P a w next' Q:=by
 refine ⟨fun _ _=>trivial,?_⟩
 have e:o.semAt (RF l).round a.eval=execOp a.eval o:=Oper.semAt_some l _ o hd
 rw [e]
 unfold Oper.wp at h
 cases hr :(execOp a.eval o).run P w with
 | ok r w'=>
  rw [hr] at h
  cases r with
  | value v=>exact hn _ _ h
  | skip=>exact hn _ _ h
  | defer d=>exact hn _ _ h
  | enter f args=>
   have h:Calls P f args w' _:=h
   refine ⟨fun hz=>(by cases hz),(G7 h).mono fun e w'' q=>?_⟩
   cases e with
   | returned v=>exact hn _ _ q
   | panicked ch=>exact q
   | outgrown=>exact q
  | row r args=>exact ⟨fun hz=>(by cases hz),(LJ h).mono fun v w'' q=>hn _ _ q⟩
  | _=>exact False.elim h
 | halt r w'=>
  rw [hr] at h
  cases r <;> first|exact h|exact False.elim h
def vU (ops:List Oper):Bool:=ops.all fun o=>match o.op with | .defer _=>false|_=>true
theorem Ax {ops:List Oper} (h:vU ops=true) {o:Oper} (ho:o∈ops) :∀ c,o.op≠ .defer c:=fun c e=>by
 have:=List.all_eq_true.1 h o ho
 rw [e] at this
 cases this
theorem xW {l n:Nat} {ops:Array Oper} {Q:Exit→Act→World→Prop} (hQ:p7 Q) :∀ (rest:List Oper),vU rest=true→∀ a w,wpList P ops Q rest a w→wpListIn (RF l) n P ops Q rest a w
 | [],_,a,w,h=>h
 | o::rest,hd,a,w,h=>by
  have hr:vU rest=true:=by unfold vU at hd ⊢;rw [List.all_cons,Bool.and_eq_true] at hd;exact hd.2
  unfold wpList at h
  unfold wpListIn
  split
  ·rename_i hw
   rw [if_pos hw] at h
   rcases h with h|h
   ·exact EX (Ax hd List.mem_cons_self) (fun a w q=>xW hQ rest hr a w q) h
   ·exact absurd h.2 hQ
  ·rename_i hw
   rw [if_neg hw] at h
   exact ⟨fun _ _=>trivial,xW hQ rest hr _ _ h⟩
theorem wZ {l n:Nat} {md:Region.Mode} {ops:Array Oper} {Q:Exit→Act→World→Prop} (hQ:p7 Q) (hd:vU ops.toList=true) :∀ (fuel:Nat) (listed:Array Bool) (a:Act) (w:World),wpAny P md ops Q fuel listed a w→wpAnyIn (RF l) n P md ops Q fuel listed a w
 | 0,_,_,_,h=>h
 | fuel+1,listed,a,w,h=>by
  refine ⟨h.1,fun i hi=>?_⟩
  have h2:=h.2 i hi
  unfold wpOp at h2
  unfold wpOpIn
  split
  ·rename_i e
   rw [e] at h2
   exact wZ hQ hd fuel _ _ _ h2
  ·rename_i o e
   rw [e] at h2
   simp only at h2
   have ho:o∈ops.toList:=Array.mem_toList_iff.2 (Array.mem_of_getElem? e)
   split
   ·rename_i hw
    rw [if_pos hw] at h2
    rcases h2 with h2|h2
    ·exact EX (Ax hd ho) (fun a w q=>wZ hQ hd fuel _ _ _ q) h2
    ·exact absurd h2.2 hQ
   ·rename_i hw
    rw [if_neg hw] at h2
    exact ⟨fun _ _=>trivial,wZ hQ hd fuel _ _ _ h2⟩
def fL:Code→Bool
 | .region _ ops _=>vU ops.toList
 | .seq a b=>fL a&&fL b
 | .cond _ a b=>fL a&&fL b
 | .block _ b=>fL b
 | .loop b=>fL b
 | _=>true
end Go.Mir
namespace Go.Mir
open Go.RowKit
variable {P:Program}
def Stb (D L bx:Nat) (I:World→Prop):Prop:=∀ W W',I W→Keeps W (fun b=>b=bx∨b=D∨b=L) W'→I W'
def Du (D L bx:Nat) (W W':World):Prop:=W'.heap[bx]?=W.heap[bx]?∧W'.heap[D]?=W.heap[D]?∧W'.heap[L]?=W.heap[L]?
def Ox (D L bx:Nat) (I:World→Prop) (Ix:Code→World→Prop) (W:World):Exit→Act→World→Prop
 | .normal,_,W'=>Du D L bx W W'∧I W'
 | .ret,_,W'=>Du D L bx W W'∧Ix .ret W'
 | .exit id,_,W'=>Du D L bx W W'∧Ix (.exit id) W'
 | _,_,_=>False
def wV (P:Program) (gf bx:Nat) (s0:ByteArray) (LB:List ByteArray):Prop:=
 ∀ (n l:Nat) (J Jx:List ByteArray→World→Prop),
  (∀ pre W v,J pre W→J pre (W.setCell ⟨bx,0,none⟩ v))→(∀ pre (W:World),J pre W→J pre { W with drawn:=W.drawn+1 })→
  (∀ pre x W,J pre W→x.size≤s0.size→(pre++[x]) <+: LB→YieldAt Fence.wide (n - 1) P l #[.string x] W fun e W'=>
   (e = .returned (.bool true)∧J (pre++[x]) W'∧W'.cell? ⟨bx,0,none⟩=W.cell? ⟨bx,0,none⟩∧W'.frozen? ⟨bx,0,none⟩=W.frozen? ⟨bx,0,none⟩)∨(e = .returned (.bool false)∧Jx (pre++[x]) W'))→
  ∀ W:World,W.cell? ⟨bx,0,none⟩=some (.string s0)→W.frozen? ⟨bx,0,none⟩=false→J [] W→
  CallsIn Fence.wide n P gf #[.func (.yield l) #[] #[],.pointer (some ⟨bx,0,none⟩)] W fun e W'=>(∃ v,e = .returned v)∧(J LB W'∨∃ pre,pre <+: LB∧Jx pre W')
theorem vJ (W:World) {l:Nat} (o:Obj) {F:Nat→Prop} (hF:F l):Keeps W F (W.putObj l o):=
 ⟨rfl,rfl,rfl,by simp [World.putObj],fun b _ hb=>by
  show (W.putObj l o).heap[b]?=_
  exact World.putObj_heap_other (fun e=>hb (by rw [e];exact hF))⟩
theorem FR (W:World) {bx:Nat} (v:Value) {F:Nat→Prop} (hF:F bx):Keeps W F (W.setCell ⟨bx,0,none⟩ v):=
 ⟨rfl,rfl,rfl,by simp,fun b _ hb=>Below.heap_setCell _ _ _ _ (fun e=>hb (by rw [e];exact hF))⟩
theorem uP {W W':World} {b:Nat} (h:W'.heap[b]?=W.heap[b]?):W'.cell? ⟨b,0,none⟩=W.cell? ⟨b,0,none⟩∧W'.frozen? ⟨b,0,none⟩=W.frozen? ⟨b,0,none⟩:=by
 unfold World.cell? World.frozen?
 simp only [h,and_self]
theorem Kd {g:Operand} {ps:Array Tmp} {assign body:Code} {Q:Exit→Act→World→Prop} {a:Act} {w:World} {gf bx:Nat} {s0:ByteArray} {LB:List ByteArray}
  (hg:a.eval g = .func (.func gf) #[] #[.pointer (some ⟨bx,0,none⟩)]) (eg :∀ args w,(callFunc gf args).run P w = .ok (.enter gf args) w) (hps:ps.size=1)
  (hit:wV P gf bx s0 LB) (hb:w.cell? ⟨bx,0,none⟩=some (.string s0)) (hf:w.frozen? ⟨bx,0,none⟩=false)
  (I:List ByteArray→World→Prop) (Ix:List ByteArray→Code→World→Prop) (hI :∀ pre,Stb w.heap.size (w.heap.size+1) bx (I pre)) (hIx :∀ pre c,Stb w.heap.size (w.heap.size+1) bx (Ix pre c)) (h0:I [] w)
  (hround :∀ pre x W,I pre W→x.size≤s0.size→(pre++[x]) <+: LB→w.heap.size+1<W.heap.size→
   assign.wpIn (RF (w.heap.size+1)) 0 P (Exit.then (fun a' W'=>W'=W∧∀ Wb,Wb.heap.size=W.heap.size→I pre Wb→body.wpIn (RF (w.heap.size+1)) 0 P (Ox w.heap.size (w.heap.size+1) bx (I (pre++[x])) (Ix (pre++[x])) Wb) a' Wb) (fun _ _ _=>False))
    { tmps:=(ps.zip #[.string x]).foldl (fun t (p,v)=>t.setIfInBounds p v) a.tmps,defers:= [] } W)
  (hdone :∀ W,I LB W→W.heap[w.heap.size]?=some (.deferred (some []))→w.heap.size<W.heap.size→Q .normal { a with defers:={ target:= .collected w.heap.size,args:=#[] }::a.defers } W)
  (hstop :∀ pre c W,pre <+: LB→Ix pre c W→W.heap[w.heap.size]?=some (.deferred (some []))→w.heap.size<W.heap.size→c.wp P Q { a with defers:={ target:= .collected w.heap.size,args:=#[] }::a.defers } W) :
  (Code.rangeFunc g ps assign body).wp P Q a w:=by
 have hbx:bx<w.heap.size:=by
  rcases Nat.lt_or_ge bx w.heap.size with h|h
  ·exact h
  ·rw [World.cell?,Array.getElem?_eq_none h] at hb;cases hb
 refine (wpIn_wide (n:=0)).1 (wpIn_rangeFunc ?_)
 intro fn hfn
 rw [Fence.wide_round]
 obtain ⟨rec,hrec⟩ :∃ rec:LoopState→Option Code→Loop,rec=fun st pe=>{ state:=st,pending:=pe,fn,tmps:=a.tmps,params:=ps,assign,body,defers:=w.heap.size }:=⟨_,rfl⟩
 obtain ⟨W1,hW1⟩ :∃ W1,(w.alloc (.deferred (some []))).alloc (.loop (rec .ready none))=W1:=⟨_,rfl⟩
 have hL1:W1.heap[w.heap.size+1]?=some (.loop (rec .ready none)):=by
  rw [←hW1];have:=World.alloc_heap_new (w.alloc (.deferred (some []))) (.loop (rec .ready none));rwa [World.size_alloc] at this
 have hK1:W1.heap[w.heap.size]?=some (.deferred (some [])):=by
  rw [←hW1];exact (Below.heap_alloc _ _ _ (by simp)).trans (World.alloc_heap_new w _)
 have hkw :∀ F:Nat→Prop,Keeps w F W1:=fun F=>by
  rw [←hW1]
  exact ⟨rfl,rfl,rfl,by simp;omega,fun b hb' _=>(Below.heap_alloc _ _ _ (by simp;omega)).trans (Below.heap_alloc w _ _ hb')⟩
 have hI1:I [] W1:=hI _ _ _ h0 (hkw _)
 have hbW:W1.heap[bx]?=w.heap[bx]?:=(hkw fun _=>False).block bx hbx (fun h=>h)
 have hb1:=uP hbW
 refine ⟨w.heap.size+1,[{ target:= .collected w.heap.size,args:=#[] }],W1,{ target:= .fn (.func gf) #[.pointer (some ⟨bx,0,none⟩)],args:=#[.func (.yield (w.heap.size+1)) #[] #[]] },W1,gf,
  #[.func (.yield (w.heap.size+1)) #[] #[],.pointer (some ⟨bx,0,none⟩)],W1,?_,?_,?_,?_,fun h=>(by cases h),?_⟩
 ·rw [←hW1,hrec];exact run_enterLoop_outer _ _ _ _ _
 ·simp only [resolve,hg]
  simp [go_sem]
 ·intro f' _;exact trivial
 ·simp [invoke,go_sem,eg]
 ·have hput :∀ {W:World} {o:Obj} {pre:List ByteArray},I pre W→I pre (W.putObj (w.heap.size+1) o):=fun h=>hI _ _ _ h (vJ _ _ (.inr (.inr rfl)))
  have hputx :∀ {W:World} {o:Obj} {c:Code} {pre:List ByteArray},Ix pre c W→Ix pre c (W.putObj (w.heap.size+1) o):=fun h=>hIx _ _ _ _ h (vJ _ _ (.inr (.inr rfl)))
  refine (hit 0 (w.heap.size+1)
   (fun pre W=>I pre W∧W.heap[w.heap.size+1]?=some (.loop (rec .ready none))∧W.heap[w.heap.size]?=some (.deferred (some [])))
   (fun pre W=>∃ c,Ix pre c W∧W.heap[w.heap.size+1]?=some (.loop (rec .done (some c)))∧W.heap[w.heap.size]?=some (.deferred (some [])))
   (fun pre W v h=>⟨hI _ _ _ h.1 (FR W v (.inl rfl)),(Below.heap_setCell _ _ _ _ (by simp only;omega)).trans h.2.1,(Below.heap_setCell _ _ _ _ (by simp only;omega)).trans h.2.2⟩)
   (fun pre W h=>⟨hI _ _ _ h.1 ⟨rfl,rfl,rfl,Nat.le_refl _,fun _ _ _=>rfl⟩,h.2⟩)
   ?_ W1 (hb1.1.trans hb) (hb1.2.trans hf) ⟨hI1,hL1,hK1⟩).mono ?_
  ·rintro pre x W ⟨hi,hl,hk⟩ hx hpx
   have hlt:w.heap.size+1<W.heap.size:=(Array.getElem?_eq_some_iff.1 hl).1
   have hy:=run_yield (P:=P) (args:=#[.string x]) hl (by rw [hrec];simp [hps])
   rw [hrec] at hy
   refine ⟨fn,_,assign,body,hy,roundIn_of_wpIn hfn (wpIn_mono (hround pre x W hi hx hpx hlt) ?_)⟩
   clear hy
   rintro e a' W' hp
   cases e with
   | normal=>
    obtain ⟨rfl,hbody⟩:=hp
    refine ⟨_,run_beginRound hl (by rw [hrec]),?_⟩
    have hl2 :(W'.putObj (w.heap.size+1) (.loop { rec .ready none with state:= .busy })).heap[w.heap.size+1]?=some (.loop { rec .ready none with state:= .busy }):=World.putObj_heap_same hlt
    have hk2 :(W'.putObj (w.heap.size+1) (.loop { rec .ready none with state:= .busy })).heap[w.heap.size]?=some (.deferred (some [])):=(World.putObj_heap_other (by omega)).trans hk
    have hx2 :(W'.putObj (w.heap.size+1) (.loop { rec .ready none with state:= .busy })).heap[bx]?=W'.heap[bx]?:=World.putObj_heap_other (by omega)
    refine wpIn_mono (hbody _ (by simp [World.putObj]) (hput hi)) ?_
    have fin :∀ (jump:Option Code) (W3:World),Du w.heap.size (w.heap.size+1) bx (W'.putObj (w.heap.size+1) (.loop { rec .ready none with state:= .busy })) W3→
      (Instr.endRound (w.heap.size+1) jump).run P W3 = .ok (.bool jump.isNone) (W3.putObj (w.heap.size+1) (.loop (rec (if jump.isNone then .ready else .done) jump)))∧
      (W3.putObj (w.heap.size+1) (.loop (rec (if jump.isNone then .ready else .done) jump))).heap[w.heap.size+1]?=some (.loop (rec (if jump.isNone then .ready else .done) jump))∧
      (W3.putObj (w.heap.size+1) (.loop (rec (if jump.isNone then .ready else .done) jump))).heap[w.heap.size]?=some (.deferred (some []))∧
      (W3.putObj (w.heap.size+1) (.loop (rec (if jump.isNone then .ready else .done) jump))).heap[bx]?=W'.heap[bx]?:=fun jump W3 hs3=>by
     obtain ⟨s1,s2,s3⟩:=hs3
     have hl3:=s3.trans hl2
     have:=run_endRound (P:=P) jump hl3
     rw [hrec] at this hl3 ⊢
     exact ⟨this,World.putObj_heap_same (Array.getElem?_eq_some_iff.1 hl3).1,(World.putObj_heap_other (by omega)).trans (s2.trans hk2),(World.putObj_heap_other (by omega)).trans (s1.trans hx2)⟩
    rintro e a3 W3 hp
    cases e with
    | normal=>
     obtain ⟨hs3,hi3⟩:=hp
     obtain ⟨hr,hl4,hk4,hx4⟩:=fin none W3 hs3
     have hc4:=uP hx4
     exact ⟨_,_,hr,.inl ⟨rfl,⟨hput hi3,hl4,hk4⟩,hc4.1,hc4.2⟩⟩
    | ret=>
     obtain ⟨hs3,hi3⟩:=hp
     obtain ⟨hr,hl4,hk4,_⟩:=fin (some .ret) W3 hs3
     exact ⟨_,_,hr,.inr ⟨rfl,.ret,hputx hi3,hl4,hk4⟩⟩
    | exit id=>
     obtain ⟨hs3,hi3⟩:=hp
     obtain ⟨hr,hl4,hk4,_⟩:=fin (some (.exit id)) W3 hs3
     exact ⟨_,_,hr,.inr ⟨rfl,.exit id,hputx hi3,hl4,hk4⟩⟩
    | goto t=>exact hp.elim
    | panic ch=>exact hp.elim
    | outgrown=>exact hp.elim
   | ret=>exact hp.elim
   | exit id=>exact hp.elim
   | goto t=>exact hp.elim
   | panic ch=>exact hp.elim
   | outgrown=>exact hp.elim
  ·rintro e W2 ⟨⟨v,rfl⟩,(⟨hi,hl,hk⟩ |⟨pre,hpre,c,hi,hl,hk⟩)⟩
   ·have hlt:=(Array.getElem?_eq_some_iff.1 hl).1
    exact ⟨none,_,by have:=run_endLoop (P:=P) hl (by rw [hrec];simp);rw [hrec] at this;exact this,hdone _ (hput hi) ((World.putObj_heap_other (by omega)).trans hk) (by simp [World.putObj];omega)⟩
   ·have hlt:=(Array.getElem?_eq_some_iff.1 hl).1
    exact ⟨some c,_,by have:=run_endLoop (P:=P) hl (by rw [hrec];simp);rw [hrec] at this;exact this,wpIn_wide.2 (hstop pre c _ hpre (hputx hi) ((World.putObj_heap_other (by omega)).trans hk) (by simp [World.putObj];omega))⟩
end Go.Mir
namespace Go.Mir
open Go.RowKit
variable {P:Program}
def Nmd (E:Env) (b:Nat):Prop:=∃ h k,E.H h=some k∧Tch E h k b
theorem QK {B:Base} {E:Env} (hE:HRel B E) (w':World) (h1:w'.os=E.w.os) (h2:w'.tape=E.w.tape) (h3:w'.output=E.w.output) (h4:E.w.heap.size≤w'.heap.size)
  (hS :∀ b,E.S b→w'.heap[b]?=E.w.heap[b]?) (hN :∀ b,Nmd E b→w'.heap[b]?=E.w.heap[b]?) (h0 :∀ b,b<B.w0.heap.size→¬ B.F b→w'.heap[b]?=E.w.heap[b]?) :
  HRel B { E with w:=w' }∧Ext E { E with w:=w' }:=by
 have X:Ext E { E with w:=w' }:=
  ⟨fun _ h=>h,fun _ h=>h,fun b h=>hS b h,fun h cs _ hx=>⟨⟨cs,hx⟩,rfl⟩,fun h ver rw t xs _ _ hx=>⟨rw,xs,hx,rfl,rfl,fun b c T fr hr hw=>⟨c,T,fr,(hN b ⟨h,_,hx,.inl hr⟩).trans hw,rfl⟩⟩,
   fun h ver esz cs _ _ hx=>⟨cs,hx,rfl,rfl,fun b c T fr hr hw=>⟨c,T,fr,(hN b ⟨h,_,hx,.inl hr⟩).trans hw,rfl⟩⟩,fun h es _ hx=>⟨⟨es,hx⟩,rfl⟩,fun h k t x _ hx=>⟨⟨x,hx⟩,rfl⟩⟩
 have tm :∀ {h k b},E.H h=some k→Tch { E with w:=w' } h k b→Tch E h k b:=fun hx ht=>Tch.mv (E:=E) (E':={ E with w:=w' }) rfl (fun b hb'=>hN b ⟨_,_,hx,.inl hb'⟩) ht
 refine ⟨⟨hE.used,fun b h=>Nat.lt_of_lt_of_le (hE.stab b h) h4,fun h k b a1 a2=>Nat.lt_of_lt_of_le (hE.lt' h k b a1 (tm a1 a2)) h4,fun h h' k k' b a1 a2 a3 a4=>hE.inj' h h' k k' b a1 a2 (tm a1 a3) (tm a2 a4),fun h k a1=>bD X rfl (fun b hb'=>hN b ⟨h,k,a1,hb'⟩) (fun _ _ _ h=>h) (hE.blk h k a1),?_,fun h k b a1 a2=>hE.own' h k b a1 (tm a1 a2),hE.s0,hE.sb⟩,X⟩
 exact ⟨h1.trans hE.keeps.os,h2.trans hE.keeps.tape,h3.trans hE.keeps.output,Nat.le_trans hE.keeps.size h4,fun b hb hF=>(h0 b hb hF).trans (hE.keeps.block b hb hF)⟩
def reb (B:Base) (E:Env) (g:jz E.w (Nmd E)) (ds:List Deferred):Base:=⟨E.w,Nmd E,E.S,B.G,B.clo,g,ds⟩
theorem cW {B:Base} {E:Env} (hE:HRel B E):jz E.w (Nmd E):=hE.glob fun _ h=>h
theorem CZ {B:Base} {E:Env} (hE:HRel B E) (ds:List Deferred):HRel (reb B E (cW hE) ds) E:=
 ⟨hE.used,hE.stab,hE.lt',hE.inj',hE.blk,Keeps.refl _ _,fun h k b a1 a2=> .inl ⟨h,k,a1,a2⟩,fun _ h=>h,fun _ h=> .inl h⟩
theorem A6 {B:Base} {E:Env} {g:jz E.w (Nmd E)} {ds:List Deferred} {p:Nat} (h:B.pins p) :(reb B E g ds).pins p:=h
theorem pP {B:Base} {E:Env} (hE:HRel B E) {b:Nat} (h:Nmd E b):B.F b∨B.w0.heap.size≤b:=by
 obtain ⟨n,k,h1,h2⟩:=h
 exact hE.own' n k b h1 h2
theorem yl {B:Base} {E E3:Env} (hE:HRel B E) {ds:List Deferred} (h3:HRel (reb B E (cW hE) ds) E3):HRel B E3:=by
 have hk:=h3.keeps
 refine ⟨h3.used,h3.stab,h3.lt',h3.inj',h3.blk,⟨hk.os.trans hE.keeps.os,hk.tape.trans hE.keeps.tape,hk.output.trans hE.keeps.output,Nat.le_trans hE.keeps.size hk.size,fun b hb hF=>?_⟩,fun h k b a1 a2=>?_,fun b hb=>h3.s0 b (hE.s0 b hb),fun b hb=>?_⟩
 ·refine (hk.block b (Nat.lt_of_lt_of_le hb hE.keeps.size) (fun hn=>?_)).trans (hE.keeps.block b hb hF)
  rcases pP hE hn with h|h
  ·exact hF h
  ·omega
 ·rcases h3.own' h k b a1 a2 with h|h
  ·exact pP hE h
  ·exact .inr (Nat.le_trans hE.keeps.size h)
 ·rcases h3.sb b hb with h|h|h
  ·exact hE.sb b h
  ·exact .inr (pP hE h)
  ·exact .inr (.inr (Nat.le_trans hE.keeps.size h))
theorem yk {B:Base} {E E3:Env} (hE:HRel B E) {ds:List Deferred} (h3:HRel (reb B E (cW hE) ds) E3) {b:Nat} (hb:b<E.w.heap.size) (hn :¬ Nmd E b) :
  E3.w.heap[b]?=E.w.heap[b]?∧¬ Nmd E3 b∧(¬ E.S b→¬ E3.S b):=by
 refine ⟨h3.keeps.block b hb hn,fun ⟨n,k,a1,a2⟩=>?_,fun hs h=>?_⟩
 ·rcases h3.own' n k b a1 a2 with h|h
  ·exact hn h
  ·have h:E.w.heap.size≤b:=h
   omega
 ·rcases h3.sb b h with h|h|h
  ·exact hs h
  ·exact hn h
  ·have h:E.w.heap.size≤b:=h
   omega
end Go.Mir
namespace Go.Mir
open Go.RowKit
variable {P:Program}
def Dt (P:Program) (N:Nat) (B:Base) (l n:Nat) (body:Code) (L:LoopSum):Prop:=
 ∀ (st:St) (Q:Lf→Dl→Nat→Prop) (CQ:Exit→Act→World→Prop),p7 CQ→L.pre st→(L.T st).sat Q→(∀ e d nx a w,Q e d nx→at_ B N st d nx a w→CQ (dY e) a w)→∀ a w,dZ B N st a w→(Code.loop body).wpIn (RF l) n P CQ a w
def qG (P:Program) (p N:Nat) (body:Code) (L:LoopSum):Prop:=∀ (B:Base),B.pins p→∀ l n,Dt P N B l n body L
theorem dt {C:Cfg} (hC:CfgOK P C) (hP:P.follows .mixedOrders=true) {B:Base} {l n:Nat} {Λ:Nat→Option LoopSum} :∀ (c:Code),(∀ b∈aD Λ c,∃ L,Λ (rid b)=some L∧Dt P C.N B l n b L)→fL c=true→
  ∀ (st:St) (Q:Lf→Dl→Nat→Prop) (CQ:Exit→Act→World→Prop),p7 CQ→(aY C Λ c st).sat Q→(∀ e d nx a w,Q e d nx→at_ B C.N st d nx a w→CQ (dY e) a w)→∀ a w,dZ B C.N st a w→c.wpIn (RF l) n P CQ a w
 | .skip,hM,_,st,Q,CQ,hO,h,hQ,a,w,hs=>wpIn_skip (hQ .nrm _ _ a w h (fw hs))
 | .ret,hM,_,st,Q,CQ,hO,h,hQ,a,w,hs=>wpIn_ret (hQ .ret _ _ a w h (fw hs))
 | .exit id,hM,_,st,Q,CQ,hO,h,hQ,a,w,hs=>wpIn_exit (hQ (.ext id) _ _ a w h (fw hs))
 | .region id ops dr,hM,hL,st,Q,CQ,hO,h,hQ,a,w,hs=>by
  simp only [aY] at h
  obtain ⟨df,rf,hrun,hc,hq⟩:=iG _ _ _ _ h
  have hfin :∀ a w,SRel B C.N (find (df.tm++st.tm)) (ak st.H df.hp) (fun n=>n<st.nx+ops.toList.length*C.K) a w→CQ .normal a w:=fun a w h'=>hQ .nrm _ _ a w hq h'
  cases dr with
  | false=>
   refine wpIn_region_list (xW hO _ hL _ _ ?_)
   have:=qW hC ops.toList 0 _ _ _ _ hrun (Q:=CQ) (B:=B) (fun a w h'=>hfin a w (by simpa using h')) a w (by simpa [dZ,lT] using hs)
   simpa using this
  | true=>
   rcases hc with hc|hc
   ·cases hc
   ·have:=qb hC hrun hc.1 hc.2 hfin hs
    exact wpIn_region_any hP (wZ hO hL _ _ _ _ (by simpa using this))
 | .seq x y,hM,hL,st,Q,CQ,hO,h,hQ,a,w,hs=>by
  simp only [aY] at h
  have hL :(fL x&&fL y)=true:=hL
  rw [Bool.and_eq_true] at hL
  have hx:=dt hC hP (B:=B) (l:=l) (n:=n) x (fun b hb=>hM b (List.mem_append_left _ hb)) hL.1
  have hy:=dt hC hP (B:=B) (l:=l) (n:=n) y (fun b hb=>hM b (List.mem_append_right _ hb)) hL.2
  have h2:=ke (B:=B) (N:=C.N) (Y:=fun a w=>y.wpIn (RF l) n P CQ a w) h (fun d nx hk a w ha=>by
   rw [pre_sat] at hk
   exact hy (st.app d nx) _ CQ hO hk (fun e d' nx' a w hq hat=>hQ e _ _ a w hq (at_pre.1 hat)) a w (at_here.1 ha))
  refine wpIn_seq (hx st _ _ (Cz hO) h2 (fun e d nx a w hq hat=>?_) a w hs)
  cases e with
  | nrm=>exact hq a w hat
  | ext id=>exact hQ (.ext id) d nx a w hq hat
  | ret=>exact hQ .ret d nx a w hq hat
 | .cond c x y,hM,hL,st,Q,CQ,hO,h,hQ,a,w,hs=>by
  simp only [aY] at h
  have hL :(fL x&&fL y)=true:=hL
  rw [Bool.and_eq_true] at hL
  have hx:=dt hC hP (B:=B) (l:=l) (n:=n) x (fun b hb=>hM b (List.mem_append_left _ hb)) hL.1
  have hy:=dt hC hP (B:=B) (l:=l) (n:=n) y (fun b hb=>hM b (List.mem_append_right _ hb)) hL.2
  have hv :∃ E:Env,dF E (find st.tm) a:=by
   obtain ⟨⟨E,_,_,_,_,hT⟩,_⟩:=hs
   exact ⟨E,hT⟩
  obtain ⟨E,hT⟩:=hv
  have hc:=iz hT c
  split at h
  ·rename_i e;rw [e] at hc;simp only [aa] at hc
   exact wpIn_cond_true hc (hx st Q CQ hO h hQ a w hs)
  ·rename_i e;rw [e] at hc;simp only [aa] at hc
   exact wpIn_cond_false hc (hy st Q CQ hO h hQ a w hs)
  ·rename_i b e;rw [e] at hc;simp only [aa] at hc
   exact wpIn_cond_split hc (fun hb=>hx st Q CQ hO (h.1 hb) hQ a w hs) (fun hb=>hy st Q CQ hO (h.2 hb) hQ a w hs)
  ·rename_i q e;rw [e] at hc;simp only [aa] at hc
   obtain ⟨b,hc,hq⟩:=hc
   exact wpIn_cond_split hc (fun hb=>hx st Q CQ hO (h.1 (hq hb)) hQ a w hs) (fun _=>hy st Q CQ hO h.2 hQ a w hs)
  ·rename_i q e;rw [e] at hc;simp only [aa] at hc
   obtain ⟨b,hc,hq⟩:=hc
   exact wpIn_cond_split hc (fun _=>hx st Q CQ hO h.2 hQ a w hs) (fun hb=>hy st Q CQ hO (h.1 (hq hb)) hQ a w hs)
  ·exact h.elim
 | .block id b,hM,hL,st,Q,CQ,hO,h,hQ,a,w,hs=>by
  simp only [aY] at h
  refine wpIn_block (dt hC hP (B:=B) (l:=l) (n:=n) b hM hL st _ _ (Ay hO) (dR h) (fun e d nx a w hq hat=>?_) a w hs)
  cases e with
  | nrm=>exact hQ .nrm d nx a w hq hat
  | ret=>exact hQ .ret d nx a w hq hat
  | ext id'=>
   simp only [dY,Exit.inBlock]
   simp only at hq
   split
   ·rename_i e;rw [if_pos e] at hq;exact hQ .nrm d nx a w hq hat
   ·rename_i e;rw [if_neg e] at hq;exact hQ (.ext id') d nx a w hq hat
 | .loop b,hM,hL,st,Q,CQ,hO,h,hQ,a,w,hs=>by
  simp only [aY] at h
  obtain ⟨S,hS,hat⟩:=hM b List.mem_cons_self
  rw [hS] at h
  exact hat st Q CQ hO h.1 h.2 hQ a w hs
 | .rangeFunc _ _ _ _,_,_,_,_,_,_,h,_,_,_,_=>h.elim
 | .scope _,_,_,_,_,_,_,h,_,_,_,_=>h.elim
 | .label _,_,_,_,_,_,_,h,_,_,_,_=>h.elim
 | .goto _,_,_,_,_,_,_,h,_,_,_,_=>h.elim
 | .refuse _,_,_,_,_,_,_,h,_,_,_,_=>h.elim
theorem F9 {p p':Nat} (hp:p≤p') {M:Nam} {h:Nat} :∀ {o:Option Nat},jw p' M h o=true→jw p M h o=true
 | none,e=>e
 | some v,e=>by
  simp only [jw] at e ⊢
  cases hv:Nat.blt v p with
  | false=>rfl
  | true=>
   rw [show Nat.blt v p'=true from by rw [Nat.blt_eq] at hv ⊢;omega] at e
   exact e
theorem wo {p p':Nat} (hp:p≤p') {M:Nam} :∀ {l:List (Nat×Option Nat)},eK p' M l=true→eK p M l=true
 | [],h=>Nat.ble_eq_true_of_le (Nat.le_trans hp (Nat.le_of_ble_eq_true h))
 |(n,o)::l,h=>by
  simp only [eK] at h ⊢
  cases hb :(bif Nat.blt n p' then jw p' M n o else true) with
  | false=>rw [hb] at h;cases h
  | true=>
   rw [hb] at h
   rw [show (bif Nat.blt n p then jw p M n o else true)=true from ?_]
   ·exact wo hp (l:=l) h
   ·cases hn:Nat.blt n p with
    | false=>rfl
    | true=>
     rw [show Nat.blt n p'=true from by rw [Nat.blt_eq] at hn ⊢;omega] at hb
     exact F9 hp hb
theorem Lr {p p':Nat} (hp:p≤p') {B:Base} (h:B.pins p):B.pins p':=fun M E hp' hk hs hG=>h M E hp' (wo hp hk) hs hG
theorem Ga {E0:Env} {p:Nat} (hU :∀ n,E0.U n→n<p) {M':Nam} {E:Env} {hp:List (Nat×Blk)} (hpin:eK p M' (uu hp)=true) (hs:HSub M' E hp) (hG:Ext E0 E):Ext E0 (aX M' E hp):=by
 have hle:=pS hpin
 refine ⟨fun n hn=>Nat.lt_of_lt_of_le (hU n hn) hle,hG.s,hG.keepS,fun h cs hu hx=>?_,fun h ver rw t xs hu hv hx=>?_,fun h ver esz cs hu hv hx=>?_,fun h es hu hx=>?_,fun h kk t x hu hx=>?_⟩
 case refine_5=>
  obtain ⟨e,z⟩:=kS hpin (ae (ai hx)) rfl (hU _ hu)
  obtain ⟨_,g1⟩:=hs.abs _ _ _ _ (ai hx)
  rw [e] at g1
  obtain ⟨g2,g3⟩:=hG.ha h kk t x hu g1
  refine ⟨g2,?_⟩
  simp only [aX,z,Bool.false_eq_true,if_false,e]
  exact g3
 ·obtain ⟨e,z⟩:=kS hpin (ae (ai hx)) rfl (hU _ hu)
  obtain ⟨_,cs0,g1⟩:=hs.cells _ _ (ai hx)
  rw [e] at g1
  obtain ⟨g2,g3⟩:=hG.hc h cs0 hu g1
  refine ⟨g2,?_⟩
  simp only [aX,z,Bool.false_eq_true,if_false,e]
  exact g3
 ·obtain ⟨e,z,e2⟩:=oH hpin (ae (ai hx)) rfl (hU _ hu) (hU _ hv)
  rcases (hs.row _ _ _ _ _ (ai hx)).2 with ⟨h1,_⟩ |⟨_,g1⟩
  ·rw [z] at h1;cases h1
  ·rw [e,e2] at g1
   obtain ⟨rw0,xs0,g2,g3,g4,g5⟩:=hG.hr h ver rw t xs hu hv g1
   refine ⟨rw0,xs0,g2,g3,?_,g5⟩
   simp only [aX,z,Bool.false_eq_true,if_false,e]
   exact g4
 ·obtain ⟨e,z,e2⟩:=oH hpin (ae (ai hx)) rfl (hU _ hu) (hU _ hv)
  obtain ⟨_,_,cs0,g1,g0⟩:=hs.grow _ _ _ _ (ai hx)
  rw [e,e2] at g1
  obtain ⟨cs1,g2,g3,g4,g5⟩:=hG.hg h ver esz cs0 hu hv g1
  refine ⟨cs1,g2,by omega,?_,g5⟩
  simp only [aX,z,Bool.false_eq_true,if_false,e]
  exact g4
 ·exact (hs.nomp _ _ (ai hx)).elim
theorem IU {p N:Nat} {c:Code} {Λ:Nat→Option LoopSum} (h :(aD Λ c).isEmpty=true) :∀ b∈aD Λ c,∃ S,Λ (rid b)=some S∧qG P p N b S:=fun b hb=>by
 rw [List.isEmpty_iff.1 h] at hb
 cases hb
end Go.Mir
namespace Go.Mir
open Go.RowKit
variable {P:Program}
theorem Fa {l n id sl p ty:Nat} {pos:String} {Q:Exit→Act→World→Prop} {a:Act} {w:World} (h:Q .normal { a with tmps:=a.tmps.setIfInBounds sl (a.tmps.getD p undef) } w) :
  (Code.region id #[⟨some sl,.assign (.tmp p),ty,pos,#[],none⟩] false).wpIn (RF l) n P Q a w:=wpIn_region_list (by
 unfold wpListIn
 split
 ·exact ⟨fun _ _=>trivial,h⟩
 ·rename_i hw
  exact (hw rfl).elim)
def ru (hb:Nat) (E:Env):Env:=⟨E.U,E.ρ,E.S,E.w,fun h=>bif Nat.beq h hb then none else E.H h⟩
theorem bt {hb:Nat} {E:Env} {h:Nat} {k:Blk} (e :(ru hb E).H h=some k):E.H h=some k∧h≠hb:=by
 have e :(bif Nat.beq h hb then none else E.H h)=some k:=e
 cases hh:Nat.beq h hb with
 | true=>rw [hh] at e;cases e
 | false=>
  rw [hh] at e
  exact ⟨e,fun x=>by subst x;rw [Nat.beq_refl] at hh;cases hh⟩
theorem zh (hb:Nat) (E:Env):Ext E (ru hb E):=
 ⟨fun _ h=>h,fun _ h=>h,fun _ _=>rfl,fun _ cs _ hx=>⟨⟨cs,(bt hx).1⟩,rfl⟩,fun _ _ rw _ xs _ _ hx=>⟨rw,xs,(bt hx).1,rfl,rfl,fun _ c T fr _ hw=>⟨c,T,fr,hw,rfl⟩⟩,
  fun _ _ _ cs _ _ hx=>⟨cs,(bt hx).1,rfl,rfl,fun _ c T fr _ hw=>⟨c,T,fr,hw,rfl⟩⟩,fun _ es _ hx=>⟨⟨es,(bt hx).1⟩,rfl⟩,fun _ _ _ x _ hx=>⟨⟨x,(bt hx).1⟩,rfl⟩⟩
theorem Hg {B:Base} {E:Env} (hE:HRel B E) (hb:Nat):HRel B (ru hb E):=
 ⟨fun h k a=>hE.used h k (bt a).1,hE.stab,fun h k b a1 a2=>hE.lt' h k b (bt a1).1 a2,fun h h' k k' b a1 a2=>hE.inj' h h' k k' b (bt a1).1 (bt a2).1,
  fun h k a=>bD (zh hb E) rfl (fun _ _=>rfl) (fun _ _ _ h=>h) (hE.blk h k (bt a).1),hE.keeps,fun h k b a1 a2=>hE.own' h k b (bt a1).1 a2,hE.s0,hE.sb⟩
theorem zi {B:Base} {E:Env} (hE:HRel B E) {hb bx:Nat} {k:Blk} (h1:E.H hb=some k) (h2:E.ρ hb=some bx) :¬ Nmd (ru hb E) bx:=fun ⟨_,_,a1,a2⟩=>
 (bt a1).2 (hE.inj' _ _ _ _ _ (bt a1).1 h1 a2 (.inl h2))
def pa (hb:Nat):List (Nat×Blk)→List (Nat×Blk)
 | []=> []
 |(h,k)::l=>bif Nat.beq h hb then pa hb l else (h,k)::pa hb l
theorem lN {hb:Nat} :∀ {l:List (Nat×Blk)} {h:Nat},find (pa hb l) h=bif Nat.beq h hb then none else find l h
 | [],h=>by cases Nat.beq h hb <;> rfl
 |(n,k)::l,h=>by
  simp only [pa]
  cases hn:Nat.beq n hb with
  | true=>
   simp only [cond_true,lN (l:=l),find]
   cases hh:Nat.beq h hb with
   | true=>rfl
   | false=>
    cases hnh:Nat.beq n h with
    | false=>rfl
    | true=>
     have a:=Nat.eq_of_beq_eq_true hn
     have b:=Nat.eq_of_beq_eq_true hnh
     subst a;subst b
     rw [Nat.beq_refl] at hh;cases hh
  | false=>
   simp only [cond_false,find,lN (l:=l)]
   cases hnh:Nat.beq n h with
   | false=>rfl
   | true=>
    have b:=Nat.eq_of_beq_eq_true hnh
    subst b
    rw [hn];rfl
def B2 (hb:Nat) (st:St):St:=⟨st.tm,pa hb st.hp,fun _=>none,st.nx⟩
theorem N4 {hb:Nat} {st:St} {E:Env} (h0:st.H0=fun _=>none) (hH:E.H=st.H) :(ru hb E).H =(B2 hb st).H:=by
 funext h
 show (bif Nat.beq h hb then none else E.H h)=ak (fun _=>none) (pa hb st.hp) h
 rw [hH]
 unfold St.H ak
 rw [h0,lN]
 cases Nat.beq h hb <;> rfl
theorem zx {B:Base} {p N:Nat} (hB:B.pins p) {q:Pat} {st:St} {y:Den (tyP q)} (hr:dp p q st=some y) {E:Env} (hE:HRel B E) (hH:E.H=st.H) (hG:B.G E) (hU :∀ n,E.U n→n<st.nx)
  {a:Act} (hT:dF E (find st.tm) a) (hsz:a.tmps.size=N) :
  ∃ E4,HRel B E4∧E4.w=E.w∧E4.H =(put q y).H∧(B.G E4∧∀ n,E4.U n→n<q.nx)∧dF E4 (find (put q y).tm) a∧∀ b,¬ Nmd E b→¬ E.S b→¬ Nmd E4 b∧¬ E4.S b:=by
 obtain ⟨h3,h4⟩:=fO hr
 have hs:dZ (reb B E (cW hE) a.defers) N st a E.w:=⟨⟨E,CZ hE _,rfl,hH,⟨hG,hU⟩,hT⟩,hsz,rfl⟩
 obtain ⟨⟨E4,hE4,hw,hH4,hG4,hT4⟩,_,_⟩:=gT (A6 hB) h4 h3 hs
 refine ⟨E4,yl hE hE4,hw,hH4,hG4,hT4,fun b hn hs=>?_⟩
 by_cases hb:b<E.w.heap.size
 ·have:=yk hE hE4 hb hn
  exact ⟨this.2.1,this.2.2 hs⟩
 ·exact ⟨fun ⟨n,k,a1,a2⟩=>hb (hw▸hE4.lt' n k b a1 a2),fun h=>hb (hw▸hE4.stab b h)⟩
def Far (B:Base) (E:Env) (b:Nat):Prop:=¬ Nmd E b∧¬ E.S b∧(B.F b∨B.w0.heap.size≤b)
def RIn (B:Base) (a:Act) (bx D L:Nat) (q:Pat) (y:Den (tyP q)) (W:World):Prop:=
 ∃ E,HRel B E∧E.w=W∧E.H =(put q y).H∧(B.G E∧∀ n,E.U n→n<q.nx)∧dF E (find (put q y).tm) a∧Far B E bx∧Far B E D∧Far B E L
theorem EH {B:Base} {a:Act} {bx D L:Nat} {q:Pat} {y:Den (tyP q)} {W W':World} (h:RIn B a bx D L q y W) (hk:Keeps W (fun b=>b=bx∨b=D∨b=L) W'):RIn B a bx D L q y W':=by
 obtain ⟨E,hE,rfl,hH,⟨hG,hU⟩,hT,f1,f2,f3⟩:=h
 have key :∀ b,b<E.w.heap.size→(Far B E b→False)→W'.heap[b]?=E.w.heap[b]?:=fun b hb hf=>hk.block b hb fun e=>hf (by rcases e with rfl|rfl|rfl <;> assumption)
 obtain ⟨h1,X⟩:=QK hE W' hk.os hk.tape hk.output hk.size (fun b hS=>key b (hE.stab b hS) fun f=>f.2.1 hS)
  (fun b hN=>key b (by obtain ⟨n,k,a1,a2⟩:=hN;exact hE.lt' n k b a1 a2) fun f=>f.1 hN)
  (fun b hb hF=>key b (Nat.lt_of_lt_of_le hb hE.keeps.size) fun f=>by rcases f.2.2 with h|h;exact hF h;omega)
 have far :∀ {b},Far B E b→Far B { E with w:=W' } b:=fun f=>⟨fun ⟨n,k,a1,a2⟩=>f.1 ⟨n,k,a1,Tch.mv (E:=E) (E':={ E with w:=W' }) rfl (fun b hb=>key b (hE.lt n k b a1 hb) fun g=>g.1 ⟨n,k,a1,.inl hb⟩) a2⟩,f.2⟩
 exact ⟨_,h1,rfl,hH,⟨B.clo _ _ hG X,hU⟩,fun s v hv=>aK X _ _ (hT s v hv),far f1,far f2,far f3⟩
structure Rg where
 p:Nat
 N:Nat
 q:Pat
 qx:Pat
 sl:Nat
 sp:Nat
 body:Code
 nb:Nat
section
variable (L:Rg)
def Rg.st (x:ByteArray) (y:Den (tyP L.q)):St:=⟨(L.sl,.str x) ::(L.sp,.str x) ::(put L.q y).tm,(put L.q y).hp,fun _=>none,L.q.nx⟩
def Rg.okS (inv:Den (tyP L.q)→Prop) (r:Sum (Den (tyP L.qx)) (Den (tyP L.q))) (y:Den (tyP L.q)):Lf→Dl→Nat→Prop
 | .nrm,d,nx=>match dp L.p L.q ((put L.q y).app ⟨[],d.hp⟩ nx) with
  | some z=>r = .inr z∧inv z
  | none=>False
 | .ret,d,nx=>match dp L.p L.qx ((put L.q y).app ⟨[],d.hp⟩ nx) with
  | some z=>r = .inl z
  | none=>False
 | .ext _,_,_=>False
def Rg.stepS (C:Cfg) (Λ:Nat→Option LoopSum) (inv:Den (tyP L.q)→Prop) (x:ByteArray) (y:Den (tyP L.q)) (r:Sum (Den (tyP L.qx)) (Den (tyP L.q))):Prop:=(aY C Λ L.body (L.st x y)).sat (L.okS inv r y)
end
def nU {α β:Type} (res:ByteArray→β→Sum α β) (l:List ByteArray) (y:β):Sum α β:=l.foldl (fun o x=>match o with | .inl z=> .inl z | .inr y=>res x y) (.inr y)
theorem pU {α β:Type} {res:ByteArray→β→Sum α β} {z:α} :∀ l:List ByteArray,l.foldl (fun (o:Sum α β) x=>match o with | .inl z=> .inl z | .inr y=>res x y) (.inl z) = .inl z
 | []=>rfl
 | _::l=>pU l
theorem wv {α β:Type} {res:ByteArray→β→Sum α β} {l:List ByteArray} {x:ByteArray} {y0 y:β} (h:nU res l y0 = .inr y):nU res (l++[x]) y0=res x y:=by
 unfold nU at h ⊢
 rw [List.foldl_append,h]
 rfl
theorem JA {α β:Type} {res:ByteArray→β→Sum α β} {l r:List ByteArray} {y0:β} {z:α} (h:nU res l y0 = .inl z) (hp:l <+: r):nU res r y0 = .inl z:=by
 obtain ⟨t,rfl⟩:=hp
 unfold nU at h ⊢
 rw [List.foldl_append,h]
 exact pU t
def iC:Code→List Code
 | .seq a b=>iC a++iC b
 | .cond _ a b=>iC a++iC b
 | .block _ b=>iC b
 | .loop b=>iC b
 | .rangeFunc _ _ _ b=> [b]
 | _=> []
def Px (fn:Func) (k:Nat):Code:=match (iC (jk fn))[k]? with|some c=>c|none=> .skip
def Dx:Code→Option Code
 | .seq (.seq _ (.block _ (.rangeFunc _ _ _ _))) y=>some y
 | .seq _ y=>Dx y
 | _=>none
def GO (fn:Func):Code:=match Dx (jk fn) with|some c=>c|none=> .skip
theorem GW {B:Base} {E:Env} (hE:HRel B E) {hb:Nat} {s:ByteArray} (h:E.H hb=some (.cells [.str s])) :
  ∃ bx,E.ρ hb=some bx∧¬ E.S bx∧E.w.cell? ⟨bx,0,none⟩=some (.string s)∧E.w.frozen? ⟨bx,0,none⟩=false:=by
 obtain ⟨b,c,T,fr,h1,h2,h3,h4,h5⟩:=hE.blk hb _ h
 have hc:c=#[.string s]:=by
  obtain ⟨l⟩:=c
  match l,h5 with
  | [v],h5=>
   simp only [ab,aa] at h5
   rw [h5.1.1]
 subst hc
 refine ⟨b,h1,h4,?_,?_⟩
 ·simp [World.cell?,h2]
 ·have:=h3 0 (by simp)
  simp only [World.frozen?,h2]
  simp
  omega
theorem oe {t:Array Value} {i j:Nat} {v d:Value} :(t.setIfInBounds i v).getD j d=if i=j∧i<t.size then v else t.getD j d:=by
 simp only [Array.getD_eq_getD_getElem?,Array.getElem?_setIfInBounds]
 by_cases h:i=j
 ·subst h
  by_cases hl:i<t.size
  ·simp [hl]
  ·simp [hl]
 ·simp [h]
theorem Jq (L:Rg) (hP:P.follows .mixedOrders=true) {gf:FuncId} (eg :∀ args w,(callFunc gf args).run P w = .ok (.enter gf args) w) {LB:ByteArray→List ByteArray} (hit :∀ bx s0,s0.size≤L.nb→wV P gf bx s0 (LB s0))
  (hnd:fL L.body=true) (hslots :(Nat.blt L.sl L.N&&Nat.blt L.sp L.N&&Nat.ble L.nb au&&Nat.ble L.p L.q.nx)=true)
  {res:ByteArray→Den (tyP L.q)→Sum (Den (tyP L.qx)) (Den (tyP L.q))} {inv:Nat→Den (tyP L.q)→Prop} (hLB :∀ s,(LB s).length≤s.size)
  (step :∀ n x y,inv n y→x.size≤L.nb→n<L.nb→∃ (C:Cfg) (Λ:Nat→Option LoopSum),CfgOK P C∧C.N=L.N∧(∀ b∈aD Λ L.body,∃ S,Λ (rid b)=some S∧qG P L.q.nx C.N b S)∧L.stepS C Λ (inv (n+1)) x y (res x y))
  {B:Base} (hB:B.pins L.p) {st:St} (h0:st.H0=fun _=>none) {g:Operand} {hb:Nat} {s:ByteArray} (hg:AL st.tm g = .fn gf [.ptr hb 0]) (hh:st.H hb=some (.cells [.str s])) (hs:s.size≤L.nb)
  {y0:Den (tyP L.q)} (hr:dp L.p L.q (B2 hb st)=some y0) (hi:inv 0 y0) {id ty:Nat} {pos:String}
  {Q:Exit→Act→World→Prop} {a:Act} {w:World} (ha:dZ B L.N st a w)
  (hdone :∀ y bx D Lp W,nU res (LB s) y0 = .inr y→RIn B a bx D Lp L.q y W→W.heap[D]?=some (.deferred (some []))→D<W.heap.size→Q .normal { a with defers:={ target:= .collected D,args:=#[] }::a.defers } W)
  (hstop :∀ z bx D Lp W,nU res (LB s) y0 = .inl z→RIn B a bx D Lp L.qx z W→W.heap[D]?=some (.deferred (some []))→D<W.heap.size→Q .ret { a with defers:={ target:= .collected D,args:=#[] }::a.defers } W) :
  (Code.rangeFunc g #[L.sp] (Code.region id #[⟨some L.sl,.assign (.tmp L.sp),ty,pos,#[],none⟩] false) L.body).wp P Q a w:=by
 simp only [Bool.and_eq_true,Nat.blt_eq] at hslots
 obtain ⟨⟨⟨hsl,hsp⟩,hnb⟩,hpq⟩:=hslots
 have hpq:=Nat.le_of_ble_eq_true hpq
 have hnb:=Nat.le_of_ble_eq_true hnb
 obtain ⟨⟨E0,hE0,rfl,hH,⟨hG,hU⟩,hT⟩,hsz,hdf⟩:=ha
 rw [←hH] at hh
 obtain ⟨bx,hρ,hSb,hcell,hfrz⟩:=GW hE0 hh
 have hbx:bx<E0.w.heap.size:=hE0.lt _ _ _ hh hρ
 have hgv:a.eval g = .func (.func gf) #[] #[.pointer (some ⟨bx,0,none⟩)]:=by
  have:=iz hT g
  rw [hg] at this
  simp only [aa] at this
  obtain ⟨l,h1,h2⟩:=this
  obtain ⟨l⟩:=l
  match l,h2 with
  | [v],h2=>
   simp only [ab,aa] at h2
   obtain ⟨⟨_,_,h2⟩,_⟩:=h2
   obtain ⟨b,h3,rfl⟩:=h2 _ hh
   rw [hρ] at h3
   cases h3
   rw [h1]
   rfl
 have hX:=zh hb E0
 have hEd:=Hg hE0 hb
 obtain ⟨E4,hE4,hw4,hH4,hG4,hT4,hfar⟩:=zx hB hr hEd (N4 h0 hH) (B.clo _ _ hG hX) hU (fun s v hv=>aK hX _ _ (hT s v hv)) hsz
 have new :∀ b,E0.w.heap.size≤b→Far B E4 b:=fun b hb'=>by
  have h1 :¬ Nmd (ru hb E0) b:=fun ⟨n,k,a1,a2⟩=>Nat.not_lt.2 hb' (hEd.lt' n k b a1 a2)
  have h2 :¬(ru hb E0).S b:=fun h=>Nat.not_lt.2 hb' (hE0.stab b h)
  exact ⟨(hfar b h1 h2).1,(hfar b h1 h2).2,.inr (Nat.le_trans hE0.keeps.size hb')⟩
 have hfbx:Far B E4 bx:=⟨(hfar bx (zi hE0 hh hρ) hSb).1,(hfar bx (zi hE0 hh hρ) hSb).2,hE0.own _ _ _ hh hρ⟩
 refine Kd (LB:=LB s) hgv eg rfl (hit bx s hs) hcell hfrz
  (fun pre W=>∃ y,nU res pre y0 = .inr y∧inv pre.length y∧RIn B a bx E0.w.heap.size (E0.w.heap.size+1) L.q y W)
  (fun pre c W=>c = .ret∧∃ z,nU res pre y0 = .inl z∧RIn B a bx E0.w.heap.size (E0.w.heap.size+1) L.qx z W)
  (fun pre W W' h hk=>?_) (fun pre c W W' h hk=>?_) ?_ ?_ ?_ ?_
 ·obtain ⟨y,h1,h2,h3⟩:=h
  exact ⟨y,h1,h2,EH h3 hk⟩
 ·obtain ⟨hc,z,h1,h3⟩:=h
  exact ⟨hc,z,h1,EH h3 hk⟩
 ·exact ⟨y0,rfl,hi,E4,hE4,hw4,hH4,hG4,hT4,hfbx,new _ (Nat.le_refl _),new _ (Nat.le_succ _)⟩
 ·intro pre x W hI hx hpx hlt
  refine Fa ⟨rfl,fun Wb hWb hIb=>?_⟩
  obtain ⟨y,hrun,hinv,E,hE,rfl,hHE,⟨hGE,hUE⟩,hTE,f1,f2,f3⟩:=hIb
  have hx':x.size≤L.nb:=Nat.le_trans hx hs
  obtain ⟨C,Λ,hC,hN,hΛ,hg1⟩:=step pre.length x y hinv hx' (by have:=hpx.length_le;rw [List.length_append] at this;have:=hLB s;simp at *;omega)
  have hE1:HRel (⟨E.w,Nmd E,E.S,fun E'=>B.G E'∧Ext E E',fun _ _ h k=>⟨B.clo _ _ h.1 k,h.2.trans k⟩,cW hE,[]⟩:Base) E:=have h:=CZ hE []
   ⟨h.used,h.stab,h.lt',h.inj',h.blk,h.keeps,h.own',h.s0,h.sb⟩
  have hst:dZ (⟨E.w,Nmd E,E.S,fun E'=>B.G E'∧Ext E E',fun _ _ h k=>⟨B.clo _ _ h.1 k,h.2.trans k⟩,cW hE,[]⟩:Base) C.N (L.st x y)
    { tmps:=((#[L.sp].zip #[.string x]).foldl (fun t (p,v)=>t.setIfInBounds p v) a.tmps).setIfInBounds L.sl (((#[L.sp].zip #[.string x]).foldl (fun t (p,v)=>t.setIfInBounds p v) a.tmps).getD L.sp undef),defers:= [] } E.w:=by
   refine ⟨⟨E,hE1,rfl,hHE,⟨⟨hGE,Ext.refl E⟩,hUE⟩,fun i v hv=>?_⟩,?_,rfl⟩
   ·have hz :(#[L.sp].zip #[Value.string x]).foldl (fun t (p,v)=>t.setIfInBounds p v) a.tmps=a.tmps.setIfInBounds L.sp (.string x):=by simp
    show aa E v (Array.getD _ i undef)
    rw [hz]
    have hv1:aa E (.str x) (.string x):=by simp only [aa];exact ⟨trivial,by omega⟩
    simp only [Rg.st,find] at hv
    cases hb1:Nat.beq L.sl i with
    | true=>
     rw [hb1] at hv
     cases hv
     rw [oe,if_pos ⟨Nat.eq_of_beq_eq_true hb1,by simp;omega⟩,oe,if_pos ⟨rfl,by omega⟩]
     exact hv1
    | false=>
     rw [hb1] at hv
     rw [oe,if_neg (fun h=>by rw [h.1,Nat.beq_refl] at hb1;cases hb1),oe]
     cases hb2:Nat.beq L.sp i with
     | true=>
      rw [hb2] at hv
      cases hv
      rw [if_pos ⟨Nat.eq_of_beq_eq_true hb2,by omega⟩]
      exact hv1
     | false=>
      rw [hb2] at hv
      rw [if_neg (fun h=>by rw [h.1,Nat.beq_refl] at hb2;cases hb2)]
      exact hTE i v hv
   ·rw [hN,←hsz];simp
  have hpins:Base.pins L.q.nx (⟨E.w,Nmd E,E.S,fun E'=>B.G E'∧Ext E E',fun _ _ h k=>⟨B.clo _ _ h.1 k,h.2.trans k⟩,cW hE,[]⟩:Base):=fun M E' hp' hk hs' hG'=>⟨Lr hpq hB M E' hp' hk hs' hG'.1,Ga hUE hk hs' hG'.2⟩
  refine dt hC hP L.body (fun b hb=>let ⟨S,hS,h⟩:=hΛ b hb;⟨S,hS,h _ hpins _ _⟩) hnd (L.st x y) _ _ (fun ⟨_,_,z⟩=>z) hg1 (fun e d nx a3 W3 hok hat=>?_) _ _ hst
  obtain ⟨⟨E3,hE3,rfl,hH3,⟨⟨hG3,X3⟩,hU3⟩,_⟩,_,_⟩:=hat
  have hE3':HRel (reb B E (cW hE) []) E3:=⟨hE3.used,hE3.stab,hE3.lt',hE3.inj',hE3.blk,hE3.keeps,hE3.own',hE3.s0,hE3.sb⟩
  have hE3B:=yl hE hE3'
  have far3 :∀ b,b<E.w.heap.size→Far B E b→E3.w.heap[b]?=E.w.heap[b]?∧Far B E3 b:=fun b hb' f=>by
   obtain ⟨g1,g2,g3⟩:=yk hE hE3' hb' f.1
   exact ⟨g1,g2,g3 f.2.1,f.2.2⟩
  have hsize:E0.w.heap.size+1<E.w.heap.size:=by rw [hWb];exact hlt
  obtain ⟨k1,e1⟩:=far3 bx (by omega) f1
  obtain ⟨k2,e2⟩:=far3 _ (by omega) f2
  obtain ⟨k3,e3⟩:=far3 _ hsize f3
  have hH3':E3.H =((put L.q y).app ⟨[],d.hp⟩ nx).H:=by
   rw [hH3]
   unfold St.app St.H
   rw [bE]
   rfl
  have hT3:dF E3 (find ((put L.q y).app ⟨[],d.hp⟩ nx).tm) a:=fun s v hv=>aK X3 _ _ (hTE s v hv)
  have rd :∀ {q:Pat} {z:Den (tyP q)},dp L.p q ((put L.q y).app ⟨[],d.hp⟩ nx)=some z→RIn B a bx E0.w.heap.size (E0.w.heap.size+1) q z E3.w:=fun {q z} hz=>by
   obtain ⟨E5,g1,g2,g3,g4,g5,g6⟩:=zx hB hz hE3B hH3' hG3 hU3 hT3 hsz
   exact ⟨E5,g1,g2,g3,g4,g5,⟨(g6 _ e1.1 e1.2.1).1,(g6 _ e1.1 e1.2.1).2,e1.2.2⟩,⟨(g6 _ e2.1 e2.2.1).1,(g6 _ e2.1 e2.2.1).2,e2.2.2⟩,⟨(g6 _ e3.1 e3.2.1).1,(g6 _ e3.1 e3.2.1).2,e3.2.2⟩⟩
  cases e with
  | nrm=>
   simp only [Rg.okS] at hok
   cases hz:dp L.p L.q ((put L.q y).app ⟨[],d.hp⟩ nx) with
   | none=>rw [hz] at hok;exact hok.elim
   | some z=>
    rw [hz] at hok
    exact ⟨⟨k1,k2,k3⟩,z,(wv hrun).trans hok.1,by rw [List.length_append];exact hok.2,rd hz⟩
  | ret=>
   simp only [Rg.okS] at hok
   cases hz:dp L.p L.qx ((put L.q y).app ⟨[],d.hp⟩ nx) with
   | none=>rw [hz] at hok;exact hok.elim
   | some z=>
    rw [hz] at hok
    exact ⟨⟨k1,k2,k3⟩,rfl,z,(wv hrun).trans hok,rd hz⟩
  | ext id=>exact hok.elim
 ·rintro W ⟨y,h1,_,h2⟩ hD hlt
  exact hdone y _ _ _ W h1 h2 hD hlt
 ·rintro pre c W hpre ⟨rfl,z,h1,h2⟩ hD hlt
  exact wp_ret (hstop z _ _ _ W (JA h1 hpre) h2 hD hlt)
theorem DI {B:Base} {E:Env} (hE:HRel B E) {D:Nat} (f:Far B E D) (o:Obj):HRel B { E with w:=E.w.putObj D o }∧Ext E { E with w:=E.w.putObj D o }:=
 have key :∀ b,(b=D→False)→(E.w.putObj D o).heap[b]?=E.w.heap[b]?:=fun _ h=>World.putObj_heap_other h
 QK hE _ rfl rfl rfl (by simp [World.putObj]) (fun b hS=>key b fun e=>f.2.1 (e▸hS)) (fun b hN=>key b fun e=>f.1 (e▸hN))
  (fun b hb hF=>key b fun e=>by subst e;rcases f.2.2 with h|h;exact hF h;omega)
def TrW (P:Program) (N p:Nat) (c:Code) (tr:St→Tr):Prop:=∀ st,TreeFor P N p c st (tr st)
def TrM (P:Program) (N p:Nat) (c:Code) (tr:St→Tr):Prop:=∀ st,qZ P N p c st (tr st)
def QB (P:Program) (N p:Nat) (x y:Code) (tr:St→Tr):Prop:=∀ st,∀ (B:Base),B.pins p→B.dfs=[]→∀ (Q:Lf→Dl→Nat→Prop) (K:Lf→Act→World→Prop),(tr st).sat Q→
 (∀ e d nx a w,Q e d nx→at_ B N st d nx a w→K e a w)→∀ a w,dZ B N st a w→x.wp P (Exit.then (fun a w=>y.wp P (pD K) a w) (pD K)) a w
theorem yM {C:Cfg} (hC:CfgOK P C) (hP:P.follows .mixedOrders=true) {p:Nat} {c:Code} {Λ:Nat→Option LoopSum} (hΛ :∀ b∈aD Λ c,∀ S,Λ (rid b)=some S→LoopOKp P p C.N b S):TrW P C.N p c (aY C Λ c):=fun st B hB Q CQ hs hQ a w ha=>
 bB hC hP (B:=B) c (fun b hb S hS=>hΛ b hb S hS B hB) st Q CQ hs hQ a w ha
def Bm (t1 t2:St→Tr):St→Tr:=fun st=>Gp st (t1 st) fun d nx=>t2 (st.app d nx)
theorem EW {N p:Nat} {x y:Code} {t1 t2:St→Tr} (hx:TrW P N p x t1) (hy:TrM P N p y t2):TrM P N p (.seq x y) (Bm t1 t2):=fun st B hB hd Q K hs hK a w ha=>by
 have h2:=ke (B:=B) (N:=N) (Y:=fun a w=>y.wp P (pD K) a w) hs (fun d nx hk a w ha=>by
  rw [pre_sat] at hk
  exact hy (st.app d nx) B hB hd _ K hk (fun e d' nx' a w hq hat=>hK e _ _ a w hq (at_pre.1 hat)) a w (at_here.1 ha))
 refine wp_seq (hx st B hB _ _ h2 (fun e d nx a w hq hat=>?_) a w ha)
 have hd':a.defers=[]:=hat.defers.trans hd
 cases e with
 | nrm=>exact hq a w hat
 | ext id=>exact .inl ⟨hd',hK (.ext id) d nx a w hq hat⟩
 | ret=>exact .inl ⟨hd',hK .ret d nx a w hq hat⟩
theorem J4 {N p:Nat} {z x y:Code} {t1 t2:St→Tr} (hz:TrW P N p z t1) (hx:QB P N p x y t2):TrM P N p (.seq (.seq z x) y) (Bm t1 t2):=fun st B hB hd Q K hs hK a w ha=>by
 have h2:=ke (B:=B) (N:=N) (Y:=fun a w=>x.wp P (Exit.then (fun a w=>y.wp P (pD K) a w) (pD K)) a w) hs (fun d nx hk a w ha=>by
  rw [pre_sat] at hk
  exact hx (st.app d nx) B hB hd _ K hk (fun e d' nx' a w hq hat=>hK e _ _ a w hq (at_pre.1 hat)) a w (at_here.1 ha))
 refine wp_seq (wp_seq (hz st B hB _ _ h2 (fun e d nx a w hq hat=>?_) a w ha))
 have hd':a.defers=[]:=hat.defers.trans hd
 cases e with
 | nrm=>exact hq a w hat
 | ext id=>exact .inl ⟨hd',hK (.ext id) d nx a w hq hat⟩
 | ret=>exact .inl ⟨hd',hK .ret d nx a w hq hat⟩
def Ry (L:Rg) (trP:St→Tr) (st:St) (o:Sum (Den (tyP L.qx)) (Den (tyP L.q))):Tr:=
 .br (isL o) (lW st (.leaf .ret ⟨L.qx.tmOf (gz (dflt _) o),L.qx.hpOf (gz (dflt _) o)⟩ L.qx.nx))
  (lW st ((trP (put L.q (gA (dflt _) o))).pre ⟨L.q.tmOf (gA (dflt _) o),L.q.hpOf (gA (dflt _) o)⟩))
def GU (gf:FuncId) (st:St):V→Option (Nat×ByteArray)
 | .fn f [.ptr hb off]=>bif Nat.beq f gf&&Nat.beq off 0 then (match st.H hb with|some (.cells [.str s])=>some (hb,s)|_=>none) else none
 | _=>none
def rgT (L:Rg) (gf:FuncId) (g:Operand) (all:ByteArray→Den (tyP L.q)→Sum (Den (tyP L.qx)) (Den (tyP L.q))) (inv:Nat→Den (tyP L.q)→Prop) (trP:St→Tr) (st:St):Tr:=
 match GU gf st (AL st.tm g) with
 | some (hb,s)=>match dp L.p L.q (B2 hb st) with
  | some y0=> .need (cY st.H0∧ifB (sC st.nx st.hp) (s.size≤L.nb∧inv 0 y0)) (Ry L trP st (all s y0))
  | none=> .bad
 | none=> .bad
theorem BQ {gf:FuncId} {st:St} {v:V} {hb:Nat} {s:ByteArray} (h:GU gf st v=some (hb,s)):v = .fn gf [.ptr hb 0]∧st.H hb=some (.cells [.str s]):=by
 unfold GU at h
 split at h
 case h_2=>cases h
 rename_i f hb' off
 cases hc:Nat.beq f gf&&Nat.beq off 0 with
 | false=>rw [hc] at h;cases h
 | true=>
  rw [hc] at h
  simp only [Bool.and_eq_true,Nat.beq_eq] at hc
  obtain ⟨rfl,rfl⟩:=hc
  simp only [cond_true] at h
  split at h
  case h_2=>cases h
  rename_i s' hH
  cases h
  exact ⟨rfl,hH⟩
theorem LI (L:Rg) (hP:P.follows .mixedOrders=true) {gf:FuncId} (eg :∀ args w,(callFunc gf args).run P w = .ok (.enter gf args) w) {LB:ByteArray→List ByteArray} (hit :∀ bx s0,s0.size≤L.nb→wV P gf bx s0 (LB s0))
  (hnd:fL L.body=true) (hslots :(Nat.blt L.sl L.N&&Nat.blt L.sp L.N&&Nat.ble L.nb au&&Nat.ble L.p L.q.nx)=true)
  {res all:ByteArray→Den (tyP L.q)→Sum (Den (tyP L.qx)) (Den (tyP L.q))} {inv:Nat→Den (tyP L.q)→Prop} (hLB :∀ s,(LB s).length≤s.size) (hall :∀ s y,all s y=nU res (LB s) y)
  (step :∀ n x y,inv n y→x.size≤L.nb→n<L.nb→∃ (C:Cfg) (Λ:Nat→Option LoopSum),CfgOK P C∧C.N=L.N∧(∀ b∈aD Λ L.body,∃ S,Λ (rid b)=some S∧qG P L.q.nx C.N b S)∧L.stepS C Λ (inv (n+1)) x y (res x y))
  {g:Operand} {k id ty:Nat} {pos:String} {post:Code} {trP:St→Tr} (hpost:TrW P L.N L.p post trP) :
  QB P L.N L.p (.block k (.rangeFunc g #[L.sp] (.region id #[⟨some L.sl,.assign (.tmp L.sp),ty,pos,#[],none⟩] false) L.body)) post (rgT L gf g all inv trP):=by
 intro st B hB hd Q K hs hK a w ha
 unfold rgT at hs
 split at hs
 case h_2=>exact hs.elim
 rename_i hb s hbox
 split at hs
 case h_2=>exact hs.elim
 rename_i y0 hr
 obtain ⟨⟨h0,hpre⟩,hs⟩:=hs
 obtain ⟨hl,hsz,hi⟩:=ifB_iff.1 hpre
 obtain ⟨hg,hh⟩:=BQ hbox
 rw [hall] at hs
 have hda:a.defers=[]:=ha.defers.trans hd
 have hN:a.tmps.size=L.N:=ha.size
 refine wp_block (Jq L hP eg hit hnd hslots hLB step hB h0 hg hh hsz hr hi ha ?_ ?_)
 ·intro y bx D Lp W hrun hW hD hlt
  rw [hrun] at hs
  obtain ⟨E,hE,rfl,hH,hG,hT,f1,f2,f3⟩:=hW
  have hs2:=pre_sat.1 (dv (hs.2 rfl))
  have hB':Base.pins L.p (reb B E (cW hE) [{ target:= .collected D,args:=#[] }]):=A6 hB
  refine hpost (put L.q y) _ hB' _ _ hs2 (fun e d nx a3 w3 hq hat=>?_) _ _ ⟨⟨E,CZ hE _,rfl,hH,hG,hT⟩,hN,by rw [hda];rfl⟩
  have hat':=at_here.1 hat
  obtain ⟨⟨E3,hE3,rfl,hH3,hG3,hT3⟩,hsz3,hdf3⟩:=hat'
  obtain ⟨k1,k2,k3⟩:=yk hE hE3 hlt f2.1
  obtain ⟨hE4,X4⟩:=DI (yl hE hE3) (D:=D) ⟨k2,k3 f2.2.1,f2.2.2⟩ (.deferred none)
  have hfin:dZ B L.N ⟨d.tm++L.q.tmOf y,d.hp++L.q.hpOf y,fun _=>none,nx⟩ { a3 with defers:= [] } (E3.w.putObj D (.deferred none)):=
   ⟨⟨_,hE4,rfl,hH3,⟨B.clo _ _ hG3.1 X4,hG3.2⟩,fun s v hv=>aK X4 _ _ (hT3 s v hv)⟩,hsz3,hd.symm⟩
  have fin:vP (K e) a3 E3.w:= .inr ⟨D,hdf3,k1.trans hD,hK e _ _ _ _ hq (qR h0 hl hfin)⟩
  cases e with
  | nrm=>exact fin
  | ext id=>exact fin
  | ret=>exact fin
 ·intro z bx D Lp W hrun hW hD hlt
  rw [hrun] at hs
  obtain ⟨E,hE,rfl,hH,hG,hT,f1,f2,f3⟩:=hW
  have hs2:=dv (hs.1 rfl)
  obtain ⟨hE4,X4⟩:=DI hE f2 (.deferred none)
  have hfin:dZ B L.N ⟨L.qx.tmOf z,L.qx.hpOf z,fun _=>none,L.qx.nx⟩ { a with defers:= [] } (E.w.putObj D (.deferred none)):=
   ⟨⟨_,hE4,rfl,hH,⟨B.clo _ _ hG.1 X4,hG.2⟩,fun s v hv=>aK X4 _ _ (hT s v hv)⟩,hN,hd.symm⟩
  exact .inr ⟨D,by rw [hda],hD,hK .ret _ _ _ _ hs2 (qR h0 hl hfin)⟩
end Go.Mir
namespace Go.Proofs.YtffdpnmioidloaaGreatDoor
open Go Go.Mir Go.RowKit Go.Shelf
attribute [local irreducible] Go.Mir.DT.sat Go.Mir.evPat Go.Mir.RT.sat Go.Mir.evFn
def zY:Go.Shelf.Ren:=⟨fun|102=>54|209=>113|207=>174|n=>n,fun|9=>9|4=>4|3=>3|n=>n,fun|n=>n⟩
theorem KX:Go.Proofs.Lays.n102 Tryz.prog zY where
 mixed:=by kernel_rfl
 f102:=Tryz.func54.trans (congrArg some (by kernel_rfl))
 f207:=Tryz.func174.trans (congrArg some (by kernel_rfl))
 f209:=Tryz.func113.trans (congrArg some (by kernel_rfl))
 t3:=Tryz.underlying3
 a3:=Tryz.isAgg3
 z3:=Tryz.sizeOf3
 v3:=Tryz.zeroValue3
 t4:=Tryz.underlying4
 a4:=Tryz.isAgg4
 z4:=Tryz.sizeOf4
 v4:=Tryz.zeroValue4
 t9:=Tryz.underlying9
 a9:=Tryz.isAgg9
 z9:=Tryz.sizeOf9
 v9:=Tryz.zeroValue9
abbrev qLs:Pat:=dG [.str]
abbrev Ly:Pat:=⟨[(0,.c (.fn 107 [.ptr 0 0]))],[(0,.cells [.h .str])],1⟩
def sLs:Den (tyP qLs)→List Prop×Den (tyP Ly):=fun x=>([],(x.1,()))
theorem JC (s:ByteArray) :(evPat (aA [] Tryz.f51) (fun _=>none) Tryz.f51 qLs Ly (s,())).sat fun z_=>z_ =(sLs (s,())).2:=by
 refine cast (by kernel_rfl) (?_ :(s,()) =(s,()))
 all_goals trivial
def Ow:FuncId×Ctr:=(51,ag KE qLs Ly sLs)
theorem Lg:CtrOK Tryz.prog KE 51 (ag KE qLs Ly sLs):=by
 refine aZ (C:=aA [] Tryz.f51) (an (CtrsOK.nil) _) mixed (fn:=Tryz.f51) Tryz.func51 (by kernel_rfl) (by kernel_rfl) (by kernel_rfl) (by kernel_rfl) (by kernel_rfl) (by kernel_rfl) (Λ:=fun _ _=>none) ?_ ?_
 ·exact fun _ _ _ _ _ _ _ _ h=>by cases h
 ·rintro ⟨s,⟨⟩⟩ hw hn
  exact JC s
def kj (s t:ByteArray):ByteArray:=toB (Lib.trimSuffix s.data.toList t.data.toList)
abbrev Pt:Ty:= .prod .str (.prod .str .unit)
def JQ:Den Pt→PRes:=fun x=>⟨[x.1.size≤1000000],.str (kj x.1 x.2.1),[]⟩
def qj:FuncId×Ctr:=(54,aM KE Pt JQ)
theorem nW (s t:ByteArray) :(kj s t).size≤s.size:=by
 unfold kj toB Lib.trimSuffix
 show (List.toArray _).size≤s.data.size
 rw [List.size_toArray,←Array.length_toList]
 split <;> simp
theorem ya:CtrOK Tryz.prog KE 54 (aM KE Pt JQ):=by
 refine oX Tryz.func54 (by kernel_rfl) (by kernel_rfl) (fun _=>⟨rfl,rfl⟩) (fun x av w E hw hn hg hav=>?_) (fun _ _=>rfl)
 obtain ⟨s,sep,⟨⟩⟩:=x
 have hs:s.size≤1000000:=hn _ List.mem_cons_self
 obtain ⟨a,r,rfl,⟨rfl,hs1⟩,h1⟩:=bu hav
 obtain ⟨a,r,rfl,⟨rfl,hs2⟩,h2⟩:=bu h1
 have h5:r=[]:=by cases r with|nil=>rfl|cons=>simp [eQ,ab] at h2
 subst h5
 refine (Any.strings_TrimSuffix KX s sep w (by omega)).mono fun e w' ⟨he,hw'⟩=>⟨_,he,by rw [hw'];exact Keeps.refl _ _,fun E'=>?_⟩
 refine ⟨rfl,?_⟩
 have:=nW s sep
 have hL :(1000000:Nat)≤au:=by decide
 show (kj s sep).size≤au
 omega
theorem FT :∀ bx s0,s0.size≤1000000→wV Tryz.prog 107 bx s0 (bl s0):=fun bx s0 hs n l J Jx h1 h2 h3 W hb hf h0=>
 Ia n l bx s0 hs J Jx h1 h2 h3 W hb hf h0
end Go.Proofs.YtffdpnmioidloaaGreatDoor
namespace Go.Proofs.YtffdpnmioidloaaGreatDoor
open Go Go.Mir Go.RowKit
attribute [local irreducible] Go.Mir.DT.sat Go.Mir.evPat Go.Mir.RT.sat Go.Mir.evFn
abbrev qBk:Pat:=dG [.nm .Book]
abbrev CN:Pat:=⟨[(0,.c (.osl 0 1))],[(0,.row 1 I)],2⟩
def cd (b:Mir.Book):List Int:= [b.Total,b.Wickets,b.Extras.Wides,b.Extras.NoBalls,b.Extras.Byes,b.Extras.LegByes,b.Extras.Penalties]
def wz:Den (tyP qBk)→List Prop×Den (tyP CN):=fun x=>([],(cd x.1,()))
abbrev qIl:Pat:=dG [.slice I]
abbrev bs:Pat:=dG [.bool]
def okI (v:Int):Bool:=!(decide (v<0)||decide (v>1000000))
def yy:Den (tyP qIl)→List Prop×Den (tyP bs):=fun x=>([x.1.length≤1000000],(x.1.all okI,()))
abbrev qWi:Pat:=⟨[(5,.h (.slice I)),(6,.h I),(7,.h I)],[],0⟩
abbrev xWi:List (Lf×Pat):= [(.ext 0,⟨[],[],0⟩),(.ret,⟨[(2,.h .bool)],[],0⟩)]
abbrev TWi:Type:=List Int×Int×Int×Unit
def ka:TWi→Sum Unit (Bool×Unit)
 |(xs,_,i,_)=>if (xs.drop i.toNat).all okI then .inl () else .inr (false,())
def vE:TWi→Prop
 |(xs,n,i,_)=>n =(xs.length:Int)∧xs.length≤1000000∧0≤i∧i≤n
def IP:TWi→Nat
 |(_,n,i,_)=>(n - i).toNat
theorem yp (b:Mir.Book) :(evPat (aA [] Tryz.f43) (fun _=>none) Tryz.f43 qBk CN (b,())).sat fun z_=>z_ =(wz (b,())).2:=by
 refine cast (by kernel_rfl) (?_ :([b.5,b.6,b.4.1,b.4.2,b.4.3,b.4.4,b.4.5],()) =(cd b,()))
 all_goals trivial
def kH:FuncId×Ctr:=(43,ag KE qBk CN wz)
theorem qp:CtrOK Tryz.prog KE 43 (ag KE qBk CN wz):=by
 refine aZ (C:=aA [] Tryz.f43) (an (CtrsOK.nil) _) mixed (fn:=Tryz.f43) Tryz.func43 (by kernel_rfl) (by kernel_rfl) (by kernel_rfl) (by kernel_rfl) (by kernel_rfl) (by kernel_rfl) (Λ:=fun _ _=>none) ?_ ?_
 ·exact fun _ _ _ _ _ _ _ _ h=>by cases h
 ·rintro ⟨b,⟨⟩⟩ hw hn
  exact yp b
theorem Da (b:Mir.Book) :(evPat (aA [] Tryz.f47) (fun _=>none) Tryz.f47 qBk CN (b,())).sat fun z_=>z_ =(wz (b,())).2:=by
 refine cast (by kernel_rfl) (?_ :([b.5,b.6,b.4.1,b.4.2,b.4.3,b.4.4,b.4.5],()) =(cd b,()))
 all_goals trivial
def zU:FuncId×Ctr:=(47,ag KE qBk CN wz)
theorem F5:CtrOK Tryz.prog KE 47 (ag KE qBk CN wz):=by
 refine aZ (C:=aA [] Tryz.f47) (an (CtrsOK.nil) _) mixed (fn:=Tryz.f47) Tryz.func47 (by kernel_rfl) (by kernel_rfl) (by kernel_rfl) (by kernel_rfl) (by kernel_rfl) (by kernel_rfl) (Λ:=fun _ _=>none) ?_ ?_
 ·exact fun _ _ _ _ _ _ _ _ h=>by cases h
 ·rintro ⟨b,⟨⟩⟩ hw hn
  exact Da b
noncomputable def lpWi:Lp:=(⟨0,aA [] Tryz.f46,(fun _=>none),(ao Tryz.f46 0),qWi,xWi⟩:Lp)
theorem Qk (xs:List Int) (n:Int) (i:Int) (hi:vE (xs,n,i,())) :(Go.Mir.stepG lpWi ka (fun y:Den (tyP lpWi.q)=>vE y∧IP y<IP (xs,n,i,())) (xs,n,i,())∧Go.Mir.stepE lpWi ka (xs,n,i,())=ka (xs,n,i,())):=by
 refine cast (by kernel_rfl) (?_:let r1:Bool:=bif decide (xs.getD i.toNat (dflt (Ty.int IntKind.i64)) <(0:Int)) then true else decide (xs.getD i.toNat (dflt (Ty.int IntKind.i64)) >(1000000:Int));((decide (i<n)=true→((0:Int)≤i∧i <(↑xs.length:Int))∧(r1=true→True)∧(r1=false→vE (xs,n,IntKind.i64.wrap (i +(1:Int)),())∧IP (xs,n,IntKind.i64.wrap (i +(1:Int)),())<IP (xs,n,i,())))∧(decide (i<n)=false→True))∧(bif decide (i<n) then bif r1 then Sum.inr (false,()) else ka (xs,n,IntKind.i64.wrap (i +(1:Int)),()) else Sum.inl ())=ka (xs,n,i,()))
 intro r1
 clear_value (hr1:r1=_)
 obtain ⟨h1,h1b,h2,h3⟩:=hi
 have h1:n =(xs.length:Int):=h1
 have h1b:xs.length≤1000000:=h1b
 have h2:0≤i:=h2
 have h3:i≤n:=h3
 by_cases h:i<n
 ·have e1:IntKind.i64.wrap (i+1)=i+1:=wrap64 (by omega) (by omega)
  have hd:xs.drop i.toNat=xs.getD i.toNat (dflt (Ty.int .i64))::xs.drop (i+1).toNat:=by
   have hn:i.toNat<xs.length:=by omega
   have e1 :(i+1).toNat=i.toNat+1:=by omega
   show _=List.getD xs i.toNat 0::_
   rw [List.drop_eq_getElem_cons hn,e1,List.getD_eq_getElem?_getD,List.getElem?_eq_getElem hn]
   rfl
  have er:r1=!okI (xs.getD i.toNat (dflt (Ty.int .i64))):=by
   rw [hr1]
   unfold okI
   rw [Bool.not_not]
   cases decide (xs.getD i.toNat (dflt (Ty.int .i64))<0) <;> rfl
  have key:ka (xs,n,i,())=bif r1 then .inr (false,()) else ka (xs,n,i+1,()):=by
   show (if (xs.drop i.toNat).all okI=true then _ else _)=_
   rw [hd,List.all_cons,er]
   cases okI (xs.getD i.toNat (dflt (Ty.int .i64)))
   ·rfl
   ·show (if (true&&_)=true then _ else _)=_
    rw [Bool.true_and]
    rfl
  rw [decide_eq_true h,e1,key]
  refine ⟨⟨fun _=>⟨⟨h2,by omega⟩,fun _=>trivial,fun _=>⟨⟨h1,h1b,?_,?_⟩,?_⟩⟩,fun z=>Bool.noConfusion z⟩,rfl⟩
  ·show 0≤i+1;omega
  ·show i+1≤n;omega
  ·show (n - (i+1)).toNat <(n - i).toNat;omega
 ·rw [decide_eq_false h]
  refine ⟨⟨fun z=>Bool.noConfusion z,fun _=>trivial⟩,?_⟩
  show _ =(if (xs.drop i.toNat).all okI=true then _ else _)
  rw [List.drop_eq_nil_of_le (by omega)]
  rfl
noncomputable def Nx:LoopSum:=ah lpWi ka vE
noncomputable def MR:Nat:=rid (ao Tryz.f46 0)
theorem O3:LoopOKp Tryz.prog 0 Tryz.f46.ntmps (ao Tryz.f46 0) (ah lpWi ka vE):=
 ax lpWi (an (CtrsOK.nil) _) mixed (fun b hb S hS=>by cases hS) ka vE IP (fun |⟨xs,n,i,⟨⟩⟩,hi=>Qk xs n i hi)
theorem yt (l:List Int) (hl:l.length≤1000000) :(evPat (aA [] Tryz.f46) (find [(MR,Nx)]) Tryz.f46 qIl bs (l,())).sat fun z_=>z_ =(yy (l,())).2:=by
 refine cast (by kernel_rfl) (?_:let r1:Bool:=isL (ka (l,(↑l.length:Int),(0:Int),()));((cY fun x=>none)∧(↑l.length:Int) =(↑l.length:Int)∧l.length≤(1000000:Nat)∧(0:Int)≤(0:Int)∧(0:Int)≤(↑l.length:Int))∧(r1=true→(true,()) =(l.all okI,()))∧(r1=false→gA (dflt (Ty.bool.prod Ty.unit)) (ka (l,(↑l.length:Int),(0:Int),())) =(l.all okI,())))
 intro r1
 clear_value (hr1:r1=_)
 have key:ka (l,(l.length:Int),0,())=if l.all okI then .inl () else .inr (false,()):=rfl
 rw [key] at hr1 ⊢
 refine ⟨⟨rfl,rfl,hl,Int.le_refl _,by omega⟩,fun h=>?_,fun h=>?_⟩
 ·cases ha:l.all okI with
  | true=>rfl
  | false=>rw [hr1,ha] at h;exact Bool.noConfusion h
 ·cases ha:l.all okI with
  | true=>rw [hr1,ha] at h;exact Bool.noConfusion h
  | false=>rfl
def kI:FuncId×Ctr:=(46,ag KE qIl bs yy)
theorem l7:CtrOK Tryz.prog KE 46 (ag KE qIl bs yy):=by
 refine aZ (C:=aA [] Tryz.f46) (an (CtrsOK.nil) _) mixed (fn:=Tryz.f46) Tryz.func46 (by kernel_rfl) (by kernel_rfl) (by kernel_rfl) (by kernel_rfl) (by kernel_rfl) (by kernel_rfl) (Λ:=fun x=>find [(MR,Nx)]) ?_ ?_
 ·rintro ⟨l,⟨⟩⟩ hw hn
  exact LoopsOKp.at (by kernel_rfl) (.cons (by kernel_rfl) (O3) .nil)
 ·rintro ⟨l,⟨⟩⟩ hw hn
  exact yt l (hn _ List.mem_cons_self)
end Go.Proofs.YtffdpnmioidloaaGreatDoor
namespace Go.Proofs.YtffdpnmioidloaaGreatDoor
open Go Go.Mir Go.RowKit
attribute [local irreducible] Go.Mir.DT.sat Go.Mir.evPat Go.Mir.RT.sat Go.Mir.evFn
abbrev qS1:Pat:=dG [.str]
def Pg (v:Int):Bool:=v==46 ||(!decide (v<48)&&!decide (v>57)) ||(!decide (v<65)&&!decide (v>90)) ||(!decide (v<97)&&!decide (v>122))
def okC (b:UInt8):Bool:=Pg (b.toNat:Int)
def az (s:ByteArray):Bool:=s.data.toList.all okC&&(bif !s.toList ==(⟨#[]⟩:ByteArray).toList then decide ((s.size:Int)≤16) else false)
def pW:Den (tyP qS1)→List Prop×Den (tyP bs):=fun x=>([x.1.size≤1000000],(az x.1,()))
abbrev qPl:Pat:=⟨[(0,.h .str),(6,.h I),(7,.h I)],[],0⟩
abbrev xPl:List (Lf×Pat):= [(.ext 0,⟨[(0,.h .str)],[],0⟩),(.ret,⟨[(2,.h .bool)],[],0⟩)]
abbrev TPl:Type:=ByteArray×Int×Int×Unit
def iD:TPl→Sum (ByteArray×Unit) (Bool×Unit)
 |(s,_,i,_)=>if (s.data.toList.drop i.toNat).all okC then .inl (s,()) else .inr (false,())
def vp:TPl→Prop
 |(s,n,i,_)=>n =(s.size:Int)∧s.size≤1000000∧0≤i∧i≤n
def IA:TPl→Nat
 |(_,n,i,_)=>(n - i).toNat
abbrev qWr:Pat:=⟨[(0,.h .str),(3,.h I)],[],0⟩
abbrev TWr:Type:=ByteArray×Int×Unit
def iE:TWr→Sum (ByteArray×Unit) (Bool×Unit)
 |(s,i,_)=>if (s.data.toList.drop i.toNat).all okC then .inl (s,()) else .inr (false,())
def vF:TWr→Prop
 |(s,i,_)=>s.size≤1000000∧0≤i∧i≤(s.size:Int)
def IQ:TWr→Nat
 |(s,i,_)=>((s.size:Int) - i).toNat
theorem Rm :∀ a b c d e f g:Bool,(bif !a then (bif b then (bif d then (bif f then true else g) else bif e then (bif f then true else g) else false) else bif c then (bif d then (bif f then true else g) else bif e then (bif f then true else g) else false) else false) else false)=!(a ||(!b&&!c) ||(!d&&!e) ||(!f&&!g)):=by decide
theorem Ro :∀ a b c d e f g:Bool,(bif !a then (bif b then (bif f then (bif d then true else e) else bif g then (bif d then true else e) else false) else bif c then (bif f then (bif d then true else e) else bif g then (bif d then true else e) else false) else false) else false)=!(a ||(!b&&!c) ||(!d&&!e) ||(!f&&!g)):=by decide
theorem L9 (s:ByteArray) {i:Int} (h0:0≤i) (h1:i<s.size):s.data.toList.drop i.toNat=s.data.getD i.toNat 0::s.data.toList.drop (i+1).toNat:=by
 have hz:s.data.toList.length=s.size:=by rw [Array.length_toList];rfl
 have hn:i.toNat<s.data.toList.length:=by omega
 have e1 :(i+1).toNat=i.toNat+1:=by omega
 rw [List.drop_eq_getElem_cons hn,e1]
 congr 1
 rw [Array.getElem_toList,Array.getD_eq_getD_getElem?,Array.getElem?_eq_getElem (by rw [Array.length_toList] at hn;exact hn)]
 rfl
noncomputable def lpPl:Lp:=(⟨0,aA [] Tryz.f102,(fun _=>none),(ao Tryz.f102 0),qPl,xPl⟩:Lp)
theorem P4 (s:ByteArray) (n:Int) (i:Int) (hi:vp (s,n,i,())) :(Go.Mir.stepG lpPl iD (fun y:Den (tyP lpPl.q)=>vp y∧IA y<IA (s,n,i,())) (s,n,i,())∧Go.Mir.stepE lpPl iD (s,n,i,())=iD (s,n,i,())):=by
 refine cast (by kernel_rfl) (?_:let r1:Int:=(↑(s.1.getD i.toNat (0:UInt8)).toNat:Int);let r2:Bool:=bif decide (r1 <(97:Int)) then true else decide (r1 >(122:Int));let r3:Bool:=bif decide (r1 <(65:Int)) then r2 else bif decide (r1 >(90:Int)) then r2 else false;let r4:Bool:=bif r1 !=(46:Int) then bif decide (r1 <(48:Int)) then r3 else bif decide (r1 >(57:Int)) then r3 else false else false;((decide (i<n)=true→((0:Int)≤i∧i <(↑s.size:Int))∧(r4=true→True)∧(r4=false→vp (s,n,IntKind.i64.wrap (i +(1:Int)),())∧IA (s,n,IntKind.i64.wrap (i +(1:Int)),())<IA (s,n,i,())))∧(decide (i<n)=false→True))∧(bif decide (i<n) then bif r4 then Sum.inr (false,()) else iD (s,n,IntKind.i64.wrap (i +(1:Int)),()) else Sum.inl (s,()))=iD (s,n,i,()))
 intro r1 r2 r3 r4
 clear_value (hr1:r1=_) (hr2:r2=_) (hr3:r3=_) (hr4:r4=_)
 obtain ⟨h1,h1b,h2,h3⟩:=hi
 have h1:n =(s.size:Int):=h1
 have h1b:s.size≤1000000:=h1b
 have h2:0≤i:=h2
 have h3:i≤n:=h3
 by_cases h:i<n
 ·have e1:IntKind.i64.wrap (i+1)=i+1:=wrap64 (by omega) (by omega)
  have er:r4=!okC (s.data.getD i.toNat 0):=by
   show _=!Pg _
   rw [←hr1,hr4,hr3,hr2]
   exact Rm (r1==46) (decide (r1<48)) (decide (r1>57)) (decide (r1<65)) (decide (r1>90)) (decide (r1<97)) (decide (r1>122))
  have key:iD (s,n,i,())=bif r4 then .inr (false,()) else iD (s,n,i+1,()):=by
   show (if (s.data.toList.drop i.toNat).all okC=true then _ else _)=_
   rw [L9 s h2 (by omega),List.all_cons,er]
   cases okC (s.data.getD i.toNat 0)
   ·rfl
   ·show (if (true&&_)=true then _ else _)=_
    rw [Bool.true_and]
    rfl
  rw [decide_eq_true h,e1,key]
  refine ⟨⟨fun _=>⟨⟨h2,by omega⟩,fun _=>trivial,fun _=>⟨⟨h1,h1b,?_,?_⟩,?_⟩⟩,fun z=>Bool.noConfusion z⟩,rfl⟩
  ·show 0≤i+1;omega
  ·show i+1≤n;omega
  ·show (n - (i+1)).toNat <(n - i).toNat;omega
 ·rw [decide_eq_false h]
  refine ⟨⟨fun z=>Bool.noConfusion z,fun _=>trivial⟩,?_⟩
  show _ =(if (s.data.toList.drop i.toNat).all okC=true then _ else _)
  have hz:s.data.toList.length=s.size:=by rw [Array.length_toList];rfl
  rw [List.drop_eq_nil_of_le (by omega)]
  rfl
noncomputable def Nh:LoopSum:=ah lpPl iD vp
noncomputable def MC:Nat:=rid (ao Tryz.f102 0)
theorem OO:LoopOKp Tryz.prog 0 Tryz.f102.ntmps (ao Tryz.f102 0) (ah lpPl iD vp):=
 ax lpPl (an (CtrsOK.nil) _) mixed (fun b hb S hS=>by cases hS) iD vp IA (fun |⟨s,n,i,⟨⟩⟩,hi=>P4 s n i hi)
noncomputable def lpWr:Lp:=(⟨0,aA [] Tryz.f50,(fun _=>none),(ao Tryz.f50 0),qWr,xPl⟩:Lp)
theorem Ql (s:ByteArray) (i:Int) (hi:vF (s,i,())) :(Go.Mir.stepG lpWr iE (fun y:Den (tyP lpWr.q)=>vF y∧IQ y<IQ (s,i,())) (s,i,())∧Go.Mir.stepE lpWr iE (s,i,())=iE (s,i,())):=by
 refine cast (by kernel_rfl) (?_:let r1:Int:=(↑(s.1.getD i.toNat (0:UInt8)).toNat:Int);let r2:Bool:=decide (i <(↑s.size:Int));let r3:Bool:=bif decide (r1 <(65:Int)) then true else decide (r1 >(90:Int));let r4:Bool:=bif decide (r1 <(97:Int)) then r3 else bif decide (r1 >(122:Int)) then r3 else false;let r5:Bool:=bif r1 !=(46:Int) then bif decide (r1 <(48:Int)) then r4 else bif decide (r1 >(57:Int)) then r4 else false else false;((r2=true→((0:Int)≤i∧i <(↑s.size:Int))∧(r5=true→True)∧(r5=false→vF (s,IntKind.i64.wrap (i +(1:Int)),())∧IQ (s,IntKind.i64.wrap (i +(1:Int)),())<IQ (s,i,())))∧(r2=false→True))∧(bif r2 then bif r5 then Sum.inr (false,()) else iE (s,IntKind.i64.wrap (i +(1:Int)),()) else Sum.inl (s,()))=iE (s,i,()))
 intro r1 r2 r3 r4 r5
 clear_value (hr1:r1=_) (hr2:r2=_) (hr3:r3=_) (hr4:r4=_) (hr5:r5=_)
 obtain ⟨h1b,h2,h3⟩:=hi
 have h1b:s.size≤1000000:=h1b
 have h2:0≤i:=h2
 have h3:i≤(s.size:Int):=h3
 by_cases h:i <(s.size:Int)
 ·have e1:IntKind.i64.wrap (i+1)=i+1:=wrap64 (by omega) (by omega)
  have er:r5=!okC (s.data.getD i.toNat 0):=by
   show _=!Pg _
   rw [←hr1,hr5,hr4,hr3]
   exact Ro (r1==46) (decide (r1<48)) (decide (r1>57)) (decide (r1<65)) (decide (r1>90)) (decide (r1<97)) (decide (r1>122))
  have key:iE (s,i,())=bif r5 then .inr (false,()) else iE (s,i+1,()):=by
   show (if (s.data.toList.drop i.toNat).all okC=true then _ else _)=_
   rw [L9 s h2 (by omega),List.all_cons,er]
   cases okC (s.data.getD i.toNat 0)
   ·rfl
   ·show (if (true&&_)=true then _ else _)=_
    rw [Bool.true_and]
    rfl
  have hr2:r2=true:=hr2.trans (decide_eq_true h)
  rw [hr2,e1,key]
  refine ⟨⟨fun _=>⟨⟨h2,by omega⟩,fun _=>trivial,fun _=>⟨⟨h1b,?_,?_⟩,?_⟩⟩,fun z=>Bool.noConfusion z⟩,rfl⟩
  ·show 0≤i+1;omega
  ·show i+1≤(s.size:Int);omega
  ·show ((s.size:Int) - (i+1)).toNat <((s.size:Int) - i).toNat;omega
 ·have hr2:r2=false:=hr2.trans (decide_eq_false h)
  rw [hr2]
  refine ⟨⟨fun z=>Bool.noConfusion z,fun _=>trivial⟩,?_⟩
  show _ =(if (s.data.toList.drop i.toNat).all okC=true then _ else _)
  have hz:s.data.toList.length=s.size:=by rw [Array.length_toList];rfl
  rw [List.drop_eq_nil_of_le (by omega)]
  rfl
noncomputable def Ny:LoopSum:=ah lpWr iE vF
noncomputable def MS:Nat:=rid (ao Tryz.f50 0)
theorem O4:LoopOKp Tryz.prog 0 Tryz.f50.ntmps (ao Tryz.f50 0) (ah lpWr iE vF):=
 ax lpWr (an (CtrsOK.nil) _) mixed (fun b hb S hS=>by cases hS) iE vF IQ (fun |⟨s,i,⟨⟩⟩,hi=>Ql s i hi)
theorem C5 (s:ByteArray) (hs:s.size≤1000000) :(evPat (aA [] Tryz.f102) (find [(MC,Nh)]) Tryz.f102 qS1 bs (s,())).sat fun z_=>z_ =(pW (s,())).2:=by
 refine cast (by kernel_rfl) (?_:let r1:Bool:=isL (iD (s,(↑s.size:Int),(0:Int),()));let r2:Int:=(↑(ByteArray.size (gz (dflt (Ty.str.prod Ty.unit)) (iD (s,(↑s.size:Int),(0:Int),()))).1):Int);((cY fun x=>none)∧(↑s.size:Int) =(↑s.size:Int)∧s.size≤(1000000:Nat)∧(0:Int)≤(0:Int)∧(0:Int)≤(↑s.size:Int))∧(r1=true→(bif !ByteArray.toList (gz (dflt (Ty.str.prod Ty.unit)) (iD (s,(↑s.size:Int),(0:Int),()))).1 ==(ByteArray.mk #[]).toList then decide (r2≤(16:Int)) else false,()) =(az s,()))∧(r1=false→gA (dflt (Ty.bool.prod Ty.unit)) (iD (s,(↑s.size:Int),(0:Int),())) =(az s,())))
 intro r1 r2
 clear_value (hr1:r1=_) (hr2:r2=_)
 have key:iD (s,(s.size:Int),0,())=if s.data.toList.all okC then .inl (s,()) else .inr (false,()):=rfl
 rw [key] at hr1 hr2 ⊢
 refine ⟨⟨rfl,rfl,hs,Int.le_refl _,by omega⟩,fun h=>?_,fun h=>?_⟩
 ·cases ha:s.data.toList.all okC with
  | true=>
   unfold az
   rw [hr2]
   rw [ha]
   rfl
  | false=>rw [hr1,ha] at h;exact Bool.noConfusion h
 ·cases ha:s.data.toList.all okC with
  | true=>rw [hr1,ha] at h;exact Bool.noConfusion h
  | false=>unfold az;rw [ha];rfl
def HY:FuncId×Ctr:=(102,ag KE qS1 bs pW)
theorem F2:CtrOK Tryz.prog KE 102 (ag KE qS1 bs pW):=by
 refine aZ (C:=aA [] Tryz.f102) (an (CtrsOK.nil) _) mixed (fn:=Tryz.f102) Tryz.func102 (by kernel_rfl) (by kernel_rfl) (by kernel_rfl) (by kernel_rfl) (by kernel_rfl) (by kernel_rfl) (Λ:=fun x=>find [(MC,Nh)]) ?_ ?_
 ·rintro ⟨s,⟨⟩⟩ hw hn
  exact LoopsOKp.at (by kernel_rfl) (.cons (by kernel_rfl) (OO) .nil)
 ·rintro ⟨s,⟨⟩⟩ hw hn
  exact C5 s (hn _ List.mem_cons_self)
theorem uz (s:ByteArray) (hs:s.size≤1000000) :(evPat (aA [] Tryz.f50) (find [(MS,Ny)]) Tryz.f50 qS1 bs (s,())).sat fun z_=>z_ =(pW (s,())).2:=by
 refine cast (by kernel_rfl) (?_:let r1:Bool:=isL (iE (s,(0:Int),()));let r2:Int:=(↑(ByteArray.size (gz (dflt (Ty.str.prod Ty.unit)) (iE (s,(0:Int),()))).1):Int);((cY fun x=>none)∧s.size≤(1000000:Nat)∧(0:Int)≤(0:Int)∧(0:Int)≤(↑s.size:Int))∧(r1=true→(bif !ByteArray.toList (gz (dflt (Ty.str.prod Ty.unit)) (iE (s,(0:Int),()))).1 ==(ByteArray.mk #[]).toList then decide (r2≤(16:Int)) else false,()) =(az s,()))∧(r1=false→gA (dflt (Ty.bool.prod Ty.unit)) (iE (s,(0:Int),())) =(az s,())))
 intro r1 r2
 clear_value (hr1:r1=_) (hr2:r2=_)
 have key:iE (s,0,())=if s.data.toList.all okC then .inl (s,()) else .inr (false,()):=rfl
 rw [key] at hr1 hr2 ⊢
 refine ⟨⟨rfl,hs,Int.le_refl _,by omega⟩,fun h=>?_,fun h=>?_⟩
 ·cases ha:s.data.toList.all okC with
  | true=>
   unfold az
   rw [hr2]
   rw [ha]
   rfl
  | false=>rw [hr1,ha] at h;exact Bool.noConfusion h
 ·cases ha:s.data.toList.all okC with
  | true=>rw [hr1,ha] at h;exact Bool.noConfusion h
  | false=>unfold az;rw [ha];rfl
def fa:FuncId×Ctr:=(50,ag KE qS1 bs pW)
theorem fy:CtrOK Tryz.prog KE 50 (ag KE qS1 bs pW):=by
 refine aZ (C:=aA [] Tryz.f50) (an (CtrsOK.nil) _) mixed (fn:=Tryz.f50) Tryz.func50 (by kernel_rfl) (by kernel_rfl) (by kernel_rfl) (by kernel_rfl) (by kernel_rfl) (by kernel_rfl) (Λ:=fun x=>find [(MS,Ny)]) ?_ ?_
 ·rintro ⟨s,⟨⟩⟩ hw hn
  exact LoopsOKp.at (by kernel_rfl) (.cons (by kernel_rfl) (O4) .nil)
 ·rintro ⟨s,⟨⟩⟩ hw hn
  exact uz s (hn _ List.mem_cons_self)
end Go.Proofs.YtffdpnmioidloaaGreatDoor
namespace Go.Proofs.YtffdpnmioidloaaGreatDoor
open Go Go.Mir
attribute [local irreducible] Go.Mir.DT.sat Go.Mir.evPat
def ig (p:Int→Bool):List Int→Int→Option Int
 | [],_=>none
 | x::r,i=>if p x then some i else ig p r (i+1)
def Q4:Option Int→Sum (Int×Unit) Unit
 | some k=> .inl (k,())
 | none=> .inr ()
def IV (o:Option Int):Int:=o.getD (-1)
theorem rR {p:Int→Bool} :∀ {l:List Int} {i:Int},(ig p l i).isSome=l.any p
 | [],_=>rfl
 | x::r,i=>by
  simp only [ig,List.any_cons]
  cases hp:p x with
  | true=>simp
  | false=>simpa using rR
theorem zA {p:Int→Bool} :∀ {l:List Int} {i k:Int},ig p l i=some k→i≤k
 | [],_,_,h=>by simp [ig] at h
 | x::r,i,k,h=>by
  simp only [ig] at h
  split at h
  ·cases h;exact Int.le_refl _
  ·have:=zA h;omega
theorem aL {α:Type} {l:List α} {i:Int} (h0:0≤i) (h:i<l.length) (d:α):l.drop i.toNat=l.getD i.toNat d::l.drop (i+1).toNat:=by
 have h1:i.toNat<l.length:=by omega
 rw [List.drop_eq_getElem_cons h1,show (i+1).toNat=i.toNat+1 by omega,List.getD_eq_getElem?_getD,List.getElem?_eq_getElem h1]
 rfl
theorem aF {α:Type} {l:List α} {i:Int} (h :(l.length:Int)≤i):l.drop i.toNat=[]:=List.drop_of_length_le (by omega)
theorem ND {n:Int} (h1:-9223372036854775808≤n) (h2:n≤9223372036854775807):IntKind.i64.wrap n=n:=wrap64 h1 h2
end Go.Proofs.YtffdpnmioidloaaGreatDoor
namespace Go.Proofs.YtffdpnmioidloaaGreatDoor
open Go Go.Mir Go.RowKit
attribute [local irreducible] Go.Mir.DT.sat Go.Mir.evPat Go.Mir.RT.sat Go.Mir.evFn
def gL (v:Int):Bool:=bif decide (v<0) then true else decide (v>1000000)
abbrev qI1:Pat:=dG [I]
def PH:Den (tyP qI1)→List Prop×Den (tyP bs):=fun x=>([],(gL x.1,()))
abbrev qLo (f:Nat):Pat:=⟨[(0,.h (.slice I)),(1,.c (.fn f [])),(7,.h I),(8,.h I)],[],0⟩
abbrev xLo:List (Lf×Pat):= [(.ret,⟨[(4,.h I)],[],0⟩),(.ext 0,⟨[],[],0⟩)]
def vj (x:List Int×Int×Int×Unit):Prop:=x.2.1=x.1.length∧0≤x.2.2.1∧x.2.2.1≤x.2.1∧x.1.length≤au
def FV (x:List Int×Int×Int×Unit):Nat:=(x.2.1 - x.2.2.1).toNat
def jV (x:List Int×Int×Int×Unit):Sum (Int×Unit) Unit:=Q4 (ig gL (x.1.drop x.2.2.1.toNat) x.2.2.1)
abbrev qFo (f:Nat):Pat:=⟨[(0,.h (.slice I)),(1,.c (.fn f []))],[],0⟩
abbrev Lx:Pat:=dG [I]
def PE (f:Nat):Den (tyP (qFo f))→List Prop×Den (tyP Lx):=fun x=>([],(IV (ig gL x.1 0),()))
def PA (f:Nat):Den (tyP (qFo f))→List Prop×Den (tyP bs):=fun x=>([],(x.1.any gL,()))
def JK:Den (tyP qIl)→List Prop×Den (tyP bs):=fun x=>([],(x.1.any gL,()))
theorem Pp (v:Int):gL v=!okI v:=by
 unfold gL okI
 rw [Bool.not_not]
 cases decide (v<0) <;> rfl
theorem Ll (l:List Int):l.any gL=!l.all okI:=by
 induction l with
 | nil=>rfl
 | cons x l ih=>rw [List.any_cons,List.all_cons,ih,Pp,Bool.not_and]
theorem Gh (s:Int) :(evPat (aA [] Tryz.f166) (fun _=>none) Tryz.f166 qI1 bs (s,())).sat fun z_=>z_ =(PH (s,())).2:=by
 refine cast (by kernel_rfl) (?_ :(bif decide (s <(0:Int)) then true else decide (s >(1000000:Int)),()) =(gL s,()))
 all_goals trivial
def xS:FuncId×Ctr:=(166,ag KE qI1 bs PH)
theorem AF:CtrOK Tryz.prog KE 166 (ag KE qI1 bs PH):=by
 refine aZ (C:=aA [] Tryz.f166) (an (CtrsOK.nil) _) mixed (fn:=Tryz.f166) Tryz.func166 (by kernel_rfl) (by kernel_rfl) (by kernel_rfl) (by kernel_rfl) (by kernel_rfl) (by kernel_rfl) (Λ:=fun _ _=>none) ?_ ?_
 ·exact fun _ _ _ _ _ _ _ _ h=>by cases h
 ·rintro ⟨s,⟨⟩⟩ hw hn
  exact Gh s
noncomputable def lpLo:Lp:=(⟨0,aA [xS] Tryz.f114,(fun _=>none),(ao Tryz.f114 0),(qLo 166),xLo⟩:Lp)
theorem PZ (xs:List Int) (n:Int) (i:Int) (hi:vj (xs,n,i,())) :(Go.Mir.stepG lpLo jV (fun y:Den (tyP lpLo.q)=>vj y∧FV y<FV (xs,n,i,())) (xs,n,i,())∧Go.Mir.stepE lpLo jV (xs,n,i,())=jV (xs,n,i,())):=by
 refine cast (by kernel_rfl) (?_ :((decide (i<n)=true→((0:Int)≤i∧i <(↑xs.length:Int))∧(gL (xs.getD i.toNat (dflt (Ty.int IntKind.i64)))=true→True)∧(gL (xs.getD i.toNat (dflt (Ty.int IntKind.i64)))=false→vj (xs,n,IntKind.i64.wrap (i +(1:Int)),())∧FV (xs,n,IntKind.i64.wrap (i +(1:Int)),())<FV (xs,n,i,())))∧(decide (i<n)=false→True))∧(bif decide (i<n) then bif gL (xs.getD i.toNat (dflt (Ty.int IntKind.i64))) then Sum.inl (i,()) else jV (xs,n,IntKind.i64.wrap (i +(1:Int)),()) else Sum.inr ())=jV (xs,n,i,()))
 obtain ⟨h1,h2,h3,h4⟩:=hi
 simp only at h1 h2 h3 h4
 have h5 :(xs.length:Int)≤140737488355328:=by have:xs.length≤140737488355328:=h4;omega
 refine ⟨⟨fun h=>?_,fun _=>trivial⟩,?_⟩
 ·have h:i<n:=of_decide_eq_true h
  rw [ND (n:=i+1) (by omega) (by omega)]
  refine ⟨⟨h2,by omega⟩,fun _=>trivial,fun _=>⟨⟨h1,by simp only;omega,by simp only;omega,h4⟩,by simp only [FV];omega⟩⟩
 ·by_cases h:i<n
  ·rw [decide_eq_true h,cond_true,ND (n:=i+1) (by omega) (by omega)]
   have e:xs.drop i.toNat=xs.getD i.toNat (dflt (Ty.int IntKind.i64))::xs.drop (i+1).toNat:=aL h2 (by omega) _
   generalize xs.getD i.toNat (dflt (Ty.int IntKind.i64))=v at e ⊢
   simp only [jV,e,ig]
   cases gL v <;> rfl
  ·rw [decide_eq_false h,cond_false]
   simp only [jV]
   rw [aF (l:=xs) (by omega)]
   rfl
noncomputable def Nb:LoopSum:=ah lpLo jV vj
noncomputable def Mx:Nat:=rid (ao Tryz.f114 0)
theorem OJ:LoopOKp Tryz.prog 0 Tryz.f114.ntmps (ao Tryz.f114 0) (ah lpLo jV vj):=
 ax lpLo (an (.consU AF rfl .nil) _) mixed (fun b hb S hS=>by cases hS) jV vj FV (fun |⟨xs,n,i,⟨⟩⟩,hi=>PZ xs n i hi)
theorem JB (xs:List Int) (hx:xs.length≤au) :(evPat (aA [xS] Tryz.f114) (find [(Mx,Nb)]) Tryz.f114 (qFo 166) Lx (xs,())).sat fun z_=>z_ =((PE 166) (xs,())).2:=by
 refine cast (by kernel_rfl) (?_:let r1:Bool:=isL (jV (xs,(↑xs.length:Int),(0:Int),()));((cY fun x=>none)∧(↑xs.length:Int) =(↑xs.length:Int)∧(0:Int)≤(0:Int)∧(0:Int)≤(↑xs.length:Int)∧xs.length≤au)∧(r1=true→gz (dflt (I.prod Ty.unit)) (jV (xs,(↑xs.length:Int),(0:Int),())) =(IV (ig gL xs (0:Int)),()))∧(r1=false→((-1:Int),()) =(IV (ig gL xs (0:Int)),())))
 intro r1
 clear_value (hr1:r1=_)
 have e:jV (xs,(xs.length:Int),0,())=Q4 (ig gL xs 0):=rfl
 try subst hr1
 rw [e]
 refine ⟨⟨rfl,rfl,Int.le_refl _,by omega,hx⟩,fun h=>?_,fun h=>?_⟩ <;> cases hf:ig gL xs 0 <;> rw [hf] at h <;> first|rfl|cases h
def HV:FuncId×Ctr:=(114,ag KE (qFo 166) Lx (PE 166))
theorem Le:CtrOK Tryz.prog KE 114 (ag KE (qFo 166) Lx (PE 166)):=by
 refine aZ (C:=aA [xS] Tryz.f114) (an (.consU AF rfl .nil) _) mixed (fn:=Tryz.f114) Tryz.func114 (by kernel_rfl) (by kernel_rfl) (by kernel_rfl) (by kernel_rfl) (by kernel_rfl) (by kernel_rfl) (Λ:=fun x=>find [(Mx,Nb)]) ?_ ?_
 ·rintro ⟨xs,⟨⟩⟩ hw hn
  exact LoopsOKp.at (by kernel_rfl) (.cons (by kernel_rfl) (OJ) .nil)
 ·rintro ⟨xs,⟨⟩⟩ hw hn
  exact JB xs (iM (gG hw))
theorem Jy (xs:List Int) :(evPat (aA [HV] Tryz.f64) (fun _=>none) Tryz.f64 (qFo 166) bs (xs,())).sat fun z_=>z_ =((PA 166) (xs,())).2:=by
 refine cast (by kernel_rfl) (?_ :(decide (IV (ig gL xs (0:Int))≥(0:Int)),()) =(xs.any gL,()))
 have e:=rR (p:=gL) (l:=xs) (i:=0)
 rw [←e]
 cases hf:ig gL xs 0 with
 | none=>rfl
 | some k=>
  have:=zA hf
  simp [this,IV]
def HU:FuncId×Ctr:=(64,ag KE (qFo 166) bs (PA 166))
theorem Ld:CtrOK Tryz.prog KE 64 (ag KE (qFo 166) bs (PA 166)):=by
 refine aZ (C:=aA [HV] Tryz.f64) (an (.consU Le rfl .nil) _) mixed (fn:=Tryz.f64) Tryz.func64 (by kernel_rfl) (by kernel_rfl) (by kernel_rfl) (by kernel_rfl) (by kernel_rfl) (by kernel_rfl) (Λ:=fun _ _=>none) ?_ ?_
 ·exact fun _ _ _ _ _ _ _ _ h=>by cases h
 ·rintro ⟨xs,⟨⟩⟩ hw hn
  exact Jy xs
theorem yq (xs:List Int) :(evPat (aA [HU] Tryz.f101) (fun _=>none) Tryz.f101 qIl bs (xs,())).sat fun z_=>z_ =(JK (xs,())).2:=by
 refine cast (by kernel_rfl) (?_ :(xs.any gL,()) =(xs.any gL,()))
 rfl
def sj:FuncId×Ctr:=(101,ag KE qIl bs JK)
theorem AG:CtrOK Tryz.prog KE 101 (ag KE qIl bs JK):=by
 refine aZ (C:=aA [HU] Tryz.f101) (an (.consU Ld rfl .nil) _) mixed (fn:=Tryz.f101) Tryz.func101 (by kernel_rfl) (by kernel_rfl) (by kernel_rfl) (by kernel_rfl) (by kernel_rfl) (by kernel_rfl) (Λ:=fun _ _=>none) ?_ ?_
 ·exact fun _ _ _ _ _ _ _ _ h=>by cases h
 ·rintro ⟨xs,⟨⟩⟩ hw hn
  exact yq xs
end Go.Proofs.YtffdpnmioidloaaGreatDoor
namespace Go.Proofs.YtffdpnmioidloaaGreatDoor
open Go Go.Mir Go.RowKit Go.Shelf
theorem tI (l:List UInt8) :(toB l).size=l.length:=by
 show l.toArray.size=_
 rw [List.size_toArray]
def qm:Go.Shelf.Ren:=⟨fun|156=>103|165=>167|166=>68|169=>70|240=>120|241=>209|276=>176|277=>253|n=>n,fun|31=>76|9=>9|3=>3|4=>4|0=>0|20=>20|72=>111|76=>119|70=>108|37=>109|75=>118|127=>193|164=>236|5=>5|80=>122|n=>n,fun|n=>n⟩
theorem D9:Go.Proofs.Lays.n156 Tryz.prog qm where
 mixed:=by kernel_rfl
 f156:=Tryz.func103.trans (congrArg some (by kernel_rfl))
 f165:=Tryz.func167.trans (congrArg some (by kernel_rfl))
 f166:=Tryz.func68.trans (congrArg some (by kernel_rfl))
 f169:=Tryz.func70.trans (congrArg some (by kernel_rfl))
 f240:=Tryz.func120.trans (congrArg some (by kernel_rfl))
 f241:=Tryz.func209.trans (congrArg some (by kernel_rfl))
 f276:=Tryz.func176.trans (congrArg some (by kernel_rfl))
 f277:=Tryz.func253.trans (congrArg some (by kernel_rfl))
 t0:=Tryz.underlying0
 a0:=Tryz.isAgg0
 z0:=Tryz.sizeOf0
 v0:=Tryz.zeroValue0
 t3:=Tryz.underlying3
 a3:=Tryz.isAgg3
 z3:=Tryz.sizeOf3
 v3:=Tryz.zeroValue3
 t4:=Tryz.underlying4
 a4:=Tryz.isAgg4
 z4:=Tryz.sizeOf4
 v4:=Tryz.zeroValue4
 t9:=Tryz.underlying9
 a9:=Tryz.isAgg9
 z9:=Tryz.sizeOf9
 v9:=Tryz.zeroValue9
 t20:=Tryz.underlying20
 a20:=Tryz.isAgg20
 z20:=Tryz.sizeOf20
 v20:=Tryz.zeroValue20
 t31:=Tryz.underlying76
 a31:=Tryz.isAgg76
 z31:=Tryz.sizeOf76
 v31:=Tryz.zeroValue76
 t37:=Tryz.underlying109
 a37:=Tryz.isAgg109
 z37:=Tryz.sizeOf109
 v37:=Tryz.zeroValue109
 t70:=Tryz.underlying108
 a70:=Tryz.isAgg108
 z70:=Tryz.sizeOf108
 v70:=Tryz.zeroValue108
 t72:=Tryz.underlying111
 a72:=Tryz.isAgg111
 z72:=Tryz.sizeOf111
 v72:=Tryz.zeroValue111
 t75:=Tryz.underlying118
 a75:=Tryz.isAgg118
 z75:=Tryz.sizeOf118
 v75:=Tryz.zeroValue118
 t76:=Tryz.underlying119
 a76:=Tryz.isAgg119
 z76:=Tryz.sizeOf119
 v76:=Tryz.zeroValue119
 t127:=Tryz.underlying193
 a127:=Tryz.isAgg193
 z127:=Tryz.sizeOf193
 v127:=Tryz.zeroValue193
 t164:=Tryz.underlying236
 a164:=Tryz.isAgg236
 z164:=Tryz.sizeOf236
 v164:=Tryz.zeroValue236
theorem Ab:Builder.Extra Tryz.prog qm where
 sizeBuilder:=by kernel_rfl
 liesBuilder:=by kernel_rfl
 t5:=Tryz.underlying5
 a5:=Tryz.isAgg5
 z5:=Tryz.sizeOf5
 v5:=Tryz.zeroValue5
 infoByte:=by kernel_rfl
 cellsByte:=by kernel_rfl
 sizeByte:=by kernel_rfl
 neB5:=by decide
theorem Fo {P:Program} {K:Nat} {f:FuncId} {fn:Func} (hf:P.funcs[f]?=some fn) (hbody:fn.body.isSome=true) (hname :(fn.name == "runtime.NumGoroutine")=false) {ps:Ty} {spec:Den ps→PRes} (hfl :∀ x,(spec x).rows=[]∧(spec x).v.noF=true)
  (h :∀ (x:Den ps) (av:List Value) (E:Env),wfD ps x→(∀ p∈(spec x).needs,p)→jz E.w (fun _=>False)→(∀ b,E.S b→b<E.w.heap.size)→ab E (eQ ps x) av→Calls P f av.toArray E.w fun e w'=>∃ v',e = .returned v'∧Keeps E.w (fun _=>False) w'∧∀ E':Env,aa E' ((spec x).v.shift 0) v') (hsh :∀ x m,(spec x).v.shift m =(spec x).v.shift 0):CtrOK P K f (aM K ps spec):=by
 refine ⟨⟨fn,hf,hbody,hname⟩,fun B E hE args av hav m hm ps' v dh hct hps=>?_⟩
 unfold aM at hct
 simp only at hct
 split at hct
 case h_2=>cases hct
 rename_i x hx
 obtain ⟨hr,hn⟩:=hfl x
 have hflat :(spec x).flat=true:=by unfold PRes.flat;rw [hn,hr];rfl
 rw [hr,hflat] at hct
 simp only [List.length_nil,gE,cond_true,List.append_nil] at hct
 cases hle:Nat.ble 0 K with
 | false=>rw [hle] at hct;cases hct
 | true=>
  rw [hle] at hct
  simp only [cond_true,Option.some.injEq,Prod.mk.injEq] at hct
  obtain ⟨rfl,rfl,rfl⟩:=hct
  obtain ⟨hSE,XS⟩:=bI hE (hss args)
  obtain ⟨hav0,cs,hrd⟩:=dN hSE (Ec:=bb E (hss args)) rfl rfl (aH XS _ _ hav) hx
  refine (h x av (bb E (hss args)) ⟨_,_,_,hrd⟩ hps hE.glob0 hSE.stab hav0).mono fun e w' ⟨v',h1,h2,h3⟩=>?_
  obtain ⟨hE',X⟩:=Mf hE w' h2
  refine ⟨{ E with w:=w' },v',h1,⟨hE',X,rfl,by funext z;simp [ak,find],fun n hn=> .inl hn⟩,?_⟩
  rw [hsh x m]
  exact h3 _
def iV (l:List ByteArray) (sep:ByteArray):ByteArray:=toB (Lib.join (l.map (·.data.toList)) sep.data.toList)
abbrev Ps:Ty:= .prod (.slice .str) (.prod .str .unit)
def Dg:Den Ps→PRes:=fun x=>⟨[(iV x.1 x.2.1).size≤1000000],.str (iV x.1 x.2.1),[]⟩
def Mi:FuncId×Ctr:=(103,aM KE Ps Dg)
theorem za {w:World} {b o i:Nat} {c:Array Value} {T:TypeId} {fr:Nat×Nat} {x:Value} (hb:w.heap[b]?=some (.cells c T fr)) (h:seg c (o+i*1) 1=[x]):w.cell? ⟨b,o+i,none⟩=some x:=by
 rw [Nat.mul_one] at h
 unfold seg at h
 have hx:c.toList[o+i]?=some x:=by
  have:=congrArg (·[0]?) h
  simpa [List.getElem?_take,List.getElem?_drop] using this
 simp only [World.cell?,hb]
 simpa using hx
set_option maxHeartbeats 1600000 in
theorem Ph:CtrOK Tryz.prog KE 103 (aM KE Ps Dg):=by
 refine Fo Tryz.func103 (by kernel_rfl) (by kernel_rfl) (fun _=>⟨rfl,rfl⟩) (fun x av E hw hn hg hS hav=>?_) (fun _ _=>rfl)
 obtain ⟨l,sep,⟨⟩⟩:=x
 have hs :(iV l sep).size≤1000000:=hn _ List.mem_cons_self
 have hj :(Lib.join (l.map (·.data.toList)) sep.data.toList).length≤1000000:=by rw [←tI];exact hs
 have hL :(1000000:Nat)≤au:=by decide
 obtain ⟨a,r,rfl,h0,h1⟩:=bu hav
 obtain ⟨a',r,rfl,⟨rfl,hs2⟩,h2⟩:=bu h1
 have h5:r=[]:=by cases r with|nil=>rfl|cons=>simp [eQ,ab] at h2
 subst h5
 have h0:Rd E.S E.w (.slice .str) l [a]:=h0
 have fin :∀ {e:Ending} {w':World},(e = .returned (.string (iV l sep))∧Below E.w.heap.size E.w w')→∃ v',e = .returned v'∧Keeps E.w (fun _=>False) w'∧∀ E':Env,aa E' ((Dg (l,sep,())).v.shift 0) v':=
  fun ⟨he,hB⟩=>⟨_,he,ql hB,fun E'=>⟨rfl,Nat.le_trans hs hL⟩⟩
 cases h0 with
 | nil=>exact (Any.strings_Join_none D9 Ab _ _ sep _).mono fun e w' ⟨he,hw⟩=>fin ⟨he,hw▸Below.refl _ _⟩
 | @slice _ _ b o cap c T fr hSb hb hsz hcap hlen hcl=>
  refine (Any.strings_Join D9 Ab b o cap l sep E.w (fun j x hjx=>?_) (hS b hSb) (Nat.le_trans hlen (by decide)) hcap (Nat.le_trans hj (by decide))).mono fun e w' h=>fin h
  obtain ⟨hjl,rfl⟩:=List.getElem?_eq_some_iff.1 hjx
  have h:=hcl j hjl
  generalize hg:seg c (o+j*sz .str) (sz .str)=z at h
  cases h with
  | str h=>exact za hb hg
end Go.Proofs.YtffdpnmioidloaaGreatDoor
namespace Go.Proofs.YtffdpnmioidloaaGreatDoor
open Go Go.Mir Go.RowKit
attribute [local irreducible] Go.Mir.DT.sat Go.Mir.evPat Go.Mir.RT.sat Go.Mir.evFn
def spV:ByteArray:=⟨#[32]⟩
def nlV:ByteArray:=⟨#[10]⟩
abbrev qVl:Pat:=dG [.str,.slice I,.slice .str]
abbrev A4:Pat:=dG [.str]
def bT (w:ByteArray) (l:List Int) (r:List ByteArray):List ByteArray:=(w::l.map aQ)++r
def Ak (w:ByteArray) (l:List Int) (r:List ByteArray):ByteArray:=iV (bT w l r) spV++nlV
def sI (w:ByteArray) (l:List Int) (r:List ByteArray):Prop:=(iV (bT w l r) spV).size≤1000000∧l.length≤1000000∧r.length≤1000000
def JG:Den (tyP qVl)→List Prop×Den (tyP A4):=fun x=>([sI x.1 x.2.1 x.2.2.1],(Ak x.1 x.2.1 x.2.2.1,()))
abbrev qLv:Pat:=⟨[(2,.h (.slice .str)),(7,.c (.osl 0 1)),(12,.h (.slice I)),(13,.h I),(14,.h I)],[(0,.row 1 .str)],2⟩
abbrev xLv:List (Lf×Pat):= [(.ext 0,⟨[(2,.h (.slice .str)),(7,.c (.osl 0 1))],[(0,.row 1 .str)],2⟩)]
abbrev TLv:Type:=List ByteArray×List Int×Int×Int×List ByteArray×Unit
def nh:TLv→List ByteArray×List ByteArray×Unit
 |(r,l,_,i,o,_)=>(r,o ++(l.drop i.toNat).map aQ,())
def vk:TLv→Prop
 |(_,l,n,i,o,_)=>(n =(l.length:Int)∧l.length≤1000000)∧0≤i∧i≤n∧(o.length:Int)≤i+1
def Iv:TLv→Nat
 |(_,_,n,i,_)=>(n - i).toNat
noncomputable def lpLv:Lp:=(⟨0,aA [mD] Tryz.f42,(fun _=>none),(ao Tryz.f42 0),qLv,xLv⟩:Lp)
theorem P0 (r:List ByteArray) (l:List Int) (n:Int) (i:Int) (o:List ByteArray) (hi:vk (r,l,n,i,o,())) :(Go.Mir.stepG lpLv nh (fun y:Den (tyP lpLv.q)=>vk y∧Iv y<Iv (r,l,n,i,o,())) (r,l,n,i,o,())∧Go.Mir.stepE lpLv nh (r,l,n,i,o,())=nh (r,l,n,i,o,())):=by
 refine cast (by kernel_rfl) (?_:let r1:List ByteArray:= [aQ (l.getD i.toNat (dflt (Ty.int IntKind.i64)))];((decide (i<n)=true→((0:Int)≤i∧i <(↑l.length:Int))∧(o.length+r1.length) *(16:Nat)≤(70368744177664:Nat)∧vk (r,l,n,IntKind.i64.wrap (i +(1:Int)),o++r1,())∧Iv (r,l,n,IntKind.i64.wrap (i +(1:Int)),o++r1,())<Iv (r,l,n,i,o,()))∧(decide (i<n)=false→True))∧(bif decide (i<n) then nh (r,l,n,IntKind.i64.wrap (i +(1:Int)),o++r1,()) else (r,o,()))=nh (r,l,n,i,o,()))
 intro r1
 clear_value (hr1:r1=_)
 obtain ⟨⟨h1,h1b⟩,h2,h3,h4⟩:=hi
 have h1:n =(l.length:Int):=h1
 have h1b:l.length≤1000000:=h1b
 have h2:0≤i:=h2
 have h3:i≤n:=h3
 have h4 :(o.length:Int)≤i+1:=h4
 by_cases h:i<n
 ·have e1:IntKind.i64.wrap (i+1)=i+1:=wrap64 (by omega) (by omega)
  have hd:l.drop i.toNat=l.getD i.toNat (dflt (Ty.int .i64))::l.drop (i+1).toNat:=aL h2 (by omega) _
  have hlen:r1.length=1:=by rw [hr1];rfl
  have key:nh (r,l,n,i,o,())=nh (r,l,n,i+1,o++r1,()):=by
   show (r,o ++(l.drop i.toNat).map aQ,()) =(r,(o++r1) ++(l.drop (i+1).toNat).map aQ,())
   rw [hd,hr1,List.map_cons,List.append_assoc,List.singleton_append]
  rw [decide_eq_true h,e1,key]
  refine ⟨⟨fun _=>⟨⟨h2,by omega⟩,by omega,⟨⟨h1,h1b⟩,?_,?_,?_⟩,?_⟩,fun z=>Bool.noConfusion z⟩,rfl⟩
  ·show 0≤i+1;omega
  ·show i+1≤n;omega
  ·show ((o++r1).length:Int)≤i+1+1
   rw [List.length_append];omega
  ·show (n - (i+1)).toNat <(n - i).toNat;omega
 ·rw [decide_eq_false h]
  refine ⟨⟨fun z=>Bool.noConfusion z,fun _=>trivial⟩,?_⟩
  show _ =(r,o ++(l.drop i.toNat).map aQ,())
  rw [aF (l:=l) (by omega),List.map_nil,List.append_nil]
  rfl
noncomputable def Nc:LoopSum:=ah lpLv nh vk
noncomputable def My:Nat:=rid (ao Tryz.f42 0)
theorem OK:LoopOKp Tryz.prog 0 Tryz.f42.ntmps (ao Tryz.f42 0) (ah lpLv nh vk):=
 ax lpLv (an (.consU nQ rfl .nil) _) mixed (fun b hb S hS=>by cases hS) nh vk Iv (fun |⟨r,l,n,i,o,⟨⟩⟩,hi=>P0 r l n i o hi)
theorem Gg (w:ByteArray) (l:List Int) (r:List ByteArray) (hl:sI w l r) :(evPat (aA [mD,Mi] Tryz.f42) (find [(My,Nc)]) Tryz.f42 qVl A4 (w,l,r,())).sat fun z_=>z_ =(JG (w,l,r,())).2:=by
 refine cast (by kernel_rfl) (?_:let r1:List ByteArray:= [w]++List.map aQ (List.drop (Int.toNat (0:Int)) l);let r2:ByteArray:=iV (r1++r) (ByteArray.mk #[32]);((cY fun x=>none)∧((↑l.length:Int) =(↑l.length:Int)∧l.length≤(1000000:Nat))∧(0:Int)≤(0:Int)∧(0:Int)≤(↑l.length:Int)∧(↑[w].length:Int)≤(0:Int) +(1:Int))∧(r1.length+r.length) *(16:Nat)≤(70368744177664:Nat)∧r2.size≤(1000000:Nat)∧r2.size +(ByteArray.mk #[10]).size≤au∧(r2++ByteArray.mk #[10],()) =(Ak w l r,()))
 intro r1 r2
 clear_value (hr1:r1=_) (hr2:r2=_)
 obtain ⟨k1,k2,k3⟩:=hl
 have e1:r1=w::l.map aQ:=hr1
 have e2:r2=iV (bT w l r) spV:=by rw [hr2,e1];rfl
 have hlen:r1.length=l.length+1:=by rw [e1,List.length_cons,List.length_map]
 have hz :(ByteArray.mk #[(10:UInt8)]).size=1:=rfl
 have hL :(1000001:Nat)≤au:=by decide
 have hs:r2.size≤1000000:=by rw [e2];exact k1
 refine ⟨⟨rfl,⟨rfl,k2⟩,Int.le_refl _,by omega,?_⟩,by omega,hs,by omega,?_⟩
 ·show (1:Int)≤0+1;omega
 ·rw [e2];rfl
def qP:FuncId×Ctr:=(42,ag KE qVl A4 JG)
theorem sM:CtrOK Tryz.prog KE 42 (ag KE qVl A4 JG):=by
 refine aZ (C:=aA [mD,Mi] Tryz.f42) (an (.consU nQ rfl (.consU Ph rfl .nil)) _) mixed (fn:=Tryz.f42) Tryz.func42 (by kernel_rfl) (by kernel_rfl) (by kernel_rfl) (by kernel_rfl) (by kernel_rfl) (by kernel_rfl) (Λ:=fun x=>find [(My,Nc)]) ?_ ?_
 ·rintro ⟨w,l,r,⟨⟩⟩ hw hn
  exact LoopsOKp.at (by kernel_rfl) (.cons (by kernel_rfl) (OK) .nil)
 ·rintro ⟨w,l,r,⟨⟩⟩ hw hn
  exact Gg w l r (hn _ List.mem_cons_self)
end Go.Proofs.YtffdpnmioidloaaGreatDoor
namespace Go.Proofs.YtffdpnmioidloaaGreatDoor
open Go Go.Mir
attribute [local irreducible] Go.Mir.DT.sat Go.Mir.evPat Go.Mir.RT.sat Go.Mir.evFn
abbrev qNr:Pat:=dG [.str,I,I]
abbrev Lz:Pat:=dG [I,I]
abbrev qNl:Pat:=⟨[(1,.h I),(2,.h I),(8,.h .bool),(9,.h .str),(10,.h (.int .u64)),(11,.h .bool),(12,.h I)],[],0⟩
abbrev xNl:List (Lf×Pat):= [(.ret,⟨[(6,.h I),(7,.h I)],[],0⟩),(.ext 0,⟨[(1,.h I),(2,.h I),(8,.h .bool),(10,.h (.int .u64)),(11,.h .bool)],[],0⟩)]
abbrev TNl:Type:=Int×Int×Bool×ByteArray×Int×Bool×Int×Unit
def Eo (n:Int) (b:Int):Int:=IntKind.u64.wrap (IntKind.u64.wrap (n*10)+IntKind.u64.wrap (IntKind.u8.wrap (b - 48)))
def mV:List UInt8→Int→Bool→Option (Int×Bool)
 | [],n,b=>some (n,b)
 | x::r,n,b=>if decide ((x.toNat:Int)<48)||decide ((x.toNat:Int)>57) then none else mV r (Eo n x.toNat) (b||decide (n>1152921504606846976))
def vn (x:TNl):Prop:=0≤x.2.2.2.2.2.2.1∧x.2.2.2.2.2.2.1≤(x.2.2.2.1.size:Int)∧x.2.2.2.1.size≤au
def Iy (x:TNl):Nat:=((x.2.2.2.1.size:Int) - x.2.2.2.2.2.2.1).toNat
def QN (lo hi:Int) (g:Bool):Option (Int×Bool)→Sum (Int×Int×Unit) (Int×Int×Bool×Int×Bool×Unit)
 | none=> .inl (0,4,())
 | some p=> .inr (lo,hi,g,p.1,p.2,())
def gr (x:TNl):Sum (Int×Int×Unit) (Int×Int×Bool×Int×Bool×Unit):=QN x.1 x.2.1 x.2.2.1 (mV (x.2.2.2.1.data.toList.drop x.2.2.2.2.2.2.1.toNat) x.2.2.2.2.1 x.2.2.2.2.2.1)
def fB (s:ByteArray):Bool:=!s.data.toList.isEmpty&&s.data.toList.headD 0==45
def bk (s:ByteArray):ByteArray:=if fB s then s.extract 1 s.size else s
def Cb (neg:Bool) (lo hi:Int):Option (Int×Bool)→Int×Int
 | none=>(0,4)
 | some p=>
  if p.2 ||(decide (p.1>9223372036854775808) ||(p.1==9223372036854775808&&!neg)) then (0,2)
  else
   let v:=if neg then IntKind.i64.wrap (0 - IntKind.i64.wrap p.1) else IntKind.i64.wrap p.1
   if decide (v<lo)||decide (v>hi) then (0,2) else (v,0)
def bQ (s:ByteArray) (lo hi:Int):Int×Int:=
 let d:=bk s
 if d.data.toList.isEmpty ||(d.data.toList.headD 0==48&&(fB s||decide ((d.size:Int)>1))) then (0,4)
 else Cb (fB s) lo hi (mV d.data.toList 0 false)
def JH:Den (tyP qNr)→List Prop×Den (tyP Lz):=fun x=>([],((bQ x.1 x.2.1 x.2.2.1).1,(bQ x.1 x.2.1 x.2.2.1).2,()))
theorem R6 {s:ByteArray} (h:wfD .str s):s.size≤au:=by
 obtain ⟨S,w,cs,h⟩:=h
 cases h with|str h=>exact h
theorem isE (s:ByteArray) :(s.toList ==(ByteArray.mk #[]).toList)=s.data.toList.isEmpty:=by
 rw [Lib.toList_data,Lib.toList_data]
 cases s.data.toList <;> rfl
theorem MV {s:ByteArray} (h :(!s.data.toList.isEmpty)=true):0 <(s.size:Int):=by
 have:s.data.toList.length≠0:=by
  cases hs:s.data.toList with
  | nil=>rw [hs] at h;cases h
  | cons=>simp
 rw [Array.length_toList] at this
 show 0 <(s.data.size:Int)
 omega
theorem DW (s:ByteArray):s.data.getD (Int.toNat 0) 0=s.data.toList.headD 0:=by
 cases s with|mk d=>cases d with|mk l=>cases l <;> rfl
theorem Sl (b:UInt8) :((b.toNat:Int)==45) =(b==45):=by
 apply Bool.eq_iff_iff.2
 rw [beq_iff_eq,beq_iff_eq,←UInt8.toNat_inj]
 show _↔b.toNat=45
 omega
theorem Sm (b:UInt8) :((b.toNat:Int)==48) =(b==48):=by
 apply Bool.eq_iff_iff.2
 rw [beq_iff_eq,beq_iff_eq,←UInt8.toNat_inj]
 show _↔b.toNat=48
 omega
theorem pL (x:UInt8) (r:List UInt8) (n:Int) (b:Bool):mV (x::r) n b=if decide ((x.toNat:Int)<48)||decide ((x.toNat:Int)>57) then none else mV r (Eo n x.toNat) (b||decide (n>1152921504606846976)):=rfl
noncomputable def lpNl:Lp:=(⟨0,aA [] Tryz.f74,(fun _=>none),(ao Tryz.f74 0),qNl,xNl⟩:Lp)
theorem P2 (lo:Int) (hi_:Int) (g:Bool) (d:ByteArray) (n:Int) (b:Bool) (i:Int) (hi:vn (lo,hi_,g,d,n,b,i,())) :(Go.Mir.stepG lpNl gr (fun y:Den (tyP lpNl.q)=>vn y∧Iy y<Iy (lo,hi_,g,d,n,b,i,())) (lo,hi_,g,d,n,b,i,())∧Go.Mir.stepE lpNl gr (lo,hi_,g,d,n,b,i,())=gr (lo,hi_,g,d,n,b,i,())):=by
 refine cast (by kernel_rfl) (?_:let r1:Int:=(↑(d.1.getD i.toNat (0:UInt8)).toNat:Int);let r2:Bool:=decide (i <(↑d.size:Int));let r3:Bool:=decide (r1 <(48:Int));let r4:Bool:=bif r3 then true else decide (r1 >(57:Int));((r2=true→(((0:Int)≤i∧i <(↑d.size:Int))∧(r3=true→True)∧(r3=false→((0:Int)≤i∧i <(↑d.size:Int))∧True))∧(true=true→(r4=true→True)∧(r4=false→((0:Int)≤i∧i <(↑d.size:Int))∧vn (lo,hi_,g,d,IntKind.u64.wrap (IntKind.u64.wrap (n *(10:Int))+IntKind.u64.wrap (IntKind.u8.wrap (r1 - (48:Int)))),bif decide (n >(1152921504606846976:Int)) then true else b,IntKind.i64.wrap (i +(1:Int)),())∧Iy (lo,hi_,g,d,IntKind.u64.wrap (IntKind.u64.wrap (n *(10:Int))+IntKind.u64.wrap (IntKind.u8.wrap (r1 - (48:Int)))),bif decide (n >(1152921504606846976:Int)) then true else b,IntKind.i64.wrap (i +(1:Int)),())<Iy (lo,hi_,g,d,n,b,i,()))))∧(r2=false→True))∧(bif r2 then bif true&&true then bif r4 then Sum.inl ((0:Int),(4:Int),()) else gr (lo,hi_,g,d,IntKind.u64.wrap (IntKind.u64.wrap (n *(10:Int))+IntKind.u64.wrap (IntKind.u8.wrap (r1 - (48:Int)))),bif decide (n >(1152921504606846976:Int)) then true else b,IntKind.i64.wrap (i +(1:Int)),()) else bif true then bif r4 then Sum.inl ((0:Int),(4:Int),()) else gr (lo,hi_,g,d,IntKind.u64.wrap (IntKind.u64.wrap (n *(10:Int))+IntKind.u64.wrap (IntKind.u8.wrap (r1 - (48:Int)))),bif decide (n >(1152921504606846976:Int)) then true else b,IntKind.i64.wrap (i +(1:Int)),()) else bif r3 then Sum.inl (dflt (I.prod (I.prod Ty.unit))) else Sum.inl (dflt (I.prod (I.prod Ty.unit))) else Sum.inr (lo,hi_,g,n,b,()))=gr (lo,hi_,g,d,n,b,i,()))
 intro r1 r2 r3 r4
 clear_value (hr1:r1=_) (hr2:r2=_) (hr3:r3=_) (hr4:r4=_)
 obtain ⟨h1,h2,h3⟩:=hi
 have h1:0≤i:=h1
 have h2:i≤(d.size:Int):=h2
 have h3:d.size≤au:=h3
 have hL:au<9223372036854775807:=by decide
 by_cases h:i <(d.size:Int)
 ·have er2:r2=true:=by rw [hr2];exact decide_eq_true h
  have ew:IntKind.i64.wrap (i+1)=i+1:=wrap64 (by omega) (by omega)
  have hn:i.toNat<d.data.toList.length:=by rw [Array.length_toList];show i.toNat<d.size;omega
  have hx:d.data.getD i.toNat 0=d.data.toList[i.toNat]:=by
   have:i.toNat<d.data.size:=by rw [Array.length_toList] at hn;exact hn
   exact dif_pos this
  have e1 :(i+1).toNat=i.toNat+1:=by omega
  have key:gr (lo,hi_,g,d,n,b,i,())=if r4 then .inl (0,4,()) else gr (lo,hi_,g,d,Eo n r1,(b||decide (n>1152921504606846976)),i+1,()):=by
   unfold gr
   simp only []
   rw [List.drop_eq_getElem_cons hn,←hx,e1,hr4,hr3,hr1,pL]
   cases decide (((d.data.getD i.toNat 0).toNat:Int)<48) <;> cases decide (((d.data.getD i.toNat 0).toNat:Int)>57) <;> rfl
  rw [er2,key,ew]
  refine ⟨⟨fun _=>⟨⟨⟨h1,h⟩,fun _=>trivial,fun _=>⟨⟨h1,h⟩,trivial⟩⟩,fun _=>⟨fun _=>trivial,fun _=>⟨⟨h1,h⟩,⟨?_,?_,h3⟩,?_⟩⟩⟩,fun z=>Bool.noConfusion z⟩,?_⟩
  ·show 0≤i+1;omega
  ·show i+1≤(d.size:Int);omega
  ·show ((d.size:Int) - (i+1)).toNat <((d.size:Int) - i).toNat;omega
  ·cases r4
   ·cases b <;> cases decide (n>1152921504606846976) <;> rfl
   ·rfl
 ·have er2:r2=false:=by rw [hr2];exact decide_eq_false h
  rw [er2]
  refine ⟨⟨fun z=>Bool.noConfusion z,fun _=>trivial⟩,?_⟩
  unfold gr
  simp only [cond_false]
  rw [List.drop_eq_nil_of_le (by rw [Array.length_toList];show d.size≤i.toNat;omega)]
  rfl
noncomputable def Nf:LoopSum:=ah lpNl gr vn
noncomputable def MA:Nat:=rid (ao Tryz.f74 0)
theorem OM:LoopOKp Tryz.prog 0 Tryz.f74.ntmps (ao Tryz.f74 0) (ah lpNl gr vn):=
 ax lpNl (an (CtrsOK.nil) _) mixed (fun b hb S hS=>by cases hS) gr vn Iy (fun |⟨lo,hi_,g,d,n,b,i,⟨⟩⟩,hi=>P2 lo hi_ g d n b i hi)
theorem Bg (s:ByteArray) (lo:Int) (hi:Int) (hs:s.size≤au) :(evPat (aA [] Tryz.f74) (find [(MA,Nf)]) Tryz.f74 qNr Lz (s,lo,hi,())).sat fun z_=>z_ =(JH (s,lo,hi,())).2:=by
 refine cast (by kernel_rfl) (?_:let r1:Bool:=!s.toList ==(ByteArray.mk #[]).toList;let r2:Bool:=bif r1 then (↑(s.1.getD (Int.toNat (0:Int)) (0:UInt8)).toNat:Int) ==(45:Int) else false;let r3:ByteArray:=bif r2 then s.extract (Int.toNat (1:Int)) (↑s.size:Int).toNat else s;let r4:Int:=(↑r3.size:Int);let r5:Bool:=r3.toList ==(ByteArray.mk #[]).toList;let r6:Bool:=(↑(r3.1.getD (Int.toNat (0:Int)) (0:UInt8)).toNat:Int) ==(48:Int);let r7:Bool:=bif r5 then true else bif r6 then bif r2 then true else decide (r4 >(1:Int)) else false;let r8:Bool:=isL (gr (lo,hi,r2,r3,(0:Int),false,(0:Int),()));let r9:Int×Int×Bool×Int×Bool×PUnit:=gA (dflt (I.prod (I.prod (Ty.bool.prod ((Ty.int IntKind.u64).prod (Ty.bool.prod Ty.unit)))))) (gr (lo,hi,r2,r3,(0:Int),false,(0:Int),()));let r10:Int:=IntKind.i64.wrap r9.2.2.2.1;let r11:Int:=bif r9.2.2.1 then IntKind.i64.wrap ((0:Int) - r10) else r10;let r12:Bool:=bif r9.2.2.2.2.1 then true else bif decide (r9.2.2.2.1 >(9223372036854775808:Int)) then true else bif r9.2.2.2.1 ==(9223372036854775808:Int) then !r9.2.2.1 else false;let r13:Bool:=bif decide (r11<r9.1) then true else decide (r11>r9.2.1);((r1=true→((0:Int)≤(0:Int)∧(0:Int) <(↑s.size:Int))∧True)∧(r1=false→True))∧(true=true→((r2=true→((0:Int)≤(1:Int)∧(1:Int)≤(↑s.size:Int)∧(↑s.size:Int)≤(↑s.size:Int))∧True)∧(r2=false→True))∧(true=true→((r5=true→True)∧(r5=false→((0:Int)≤(0:Int)∧(0:Int)<r4)∧(r6=true→(r2=true→True)∧(r2=false→True))∧(r6=false→True)))∧(true=true→(r7=true→((0:Int),(4:Int),()) =((bQ s lo hi).1,(bQ s lo hi).2,()))∧(r7=false→((cY fun x=>none)∧(0:Int)≤(0:Int)∧(0:Int)≤r4∧r3.size≤au)∧(r8=true→gz (dflt (I.prod (I.prod Ty.unit))) (gr (lo,hi,r2,r3,(0:Int),false,(0:Int),())) =((bQ s lo hi).1,(bQ s lo hi).2,()))∧(r8=false→(r12=true→((0:Int),(2:Int),()) =((bQ s lo hi).1,(bQ s lo hi).2,()))∧(r12=false→(r13=true→((0:Int),(2:Int),()) =((bQ s lo hi).1,(bQ s lo hi).2,()))∧(r13=false→(r11,(0:Int),()) =((bQ s lo hi).1,(bQ s lo hi).2,())))))))))
 intro r1 r2 r3 r4 r5 r6 r7 r8 r9 r10 r11 r12 r13
 clear_value (hr1:r1=_) (hr2:r2=_) (hr3:r3=_) (hr4:r4=_) (hr5:r5=_) (hr6:r6=_) (hr7:r7=_) (hr8:r8=_) (hr9:r9=_) (hr10:r10=_) (hr11:r11=_) (hr12:r12=_) (hr13:r13=_)
 have e1:r1=!s.data.toList.isEmpty:=by rw [hr1,isE]
 have hz:r1=true→0 <(s.size:Int):=fun h=>by rw [e1] at h;exact MV h
 have e2:r2=fB s:=by
  rw [hr2,e1]
  unfold fB
  cases he:s.data.toList.isEmpty
  ·rw [DW,Sl]
   rfl
  ·rfl
 have h2:r2=true→0 <(s.size:Int):=fun h=>hz (by rw [hr2] at h;cases r1;exact h;rfl)
 have e3:r3=bk s:=by
  rw [hr3,e2]
  unfold bk
  cases fB s <;> rfl
 have hd :(bk s).size≤au:=by
  unfold bk
  split
  ·rw [ByteArray.size_extract];omega
  ·exact hs
 have e5:r5 =(bk s).data.toList.isEmpty:=by rw [hr5,e3,isE]
 have e6:r6 =((bk s).data.toList.headD 0==48):=by rw [hr6,e3,DW,Sm]
 have e7:r7 =((bk s).data.toList.isEmpty ||((bk s).data.toList.headD 0==48&&(fB s||decide (((bk s).size:Int)>1)))):=by
  rw [hr7,e5,e6,e2,hr4,e3]
  cases (bk s).data.toList.isEmpty <;> cases ((bk s).data.toList.headD 0==48) <;> cases fB s <;> rfl
 have er:gr (lo,hi,r2,r3,0,false,0,())=QN lo hi (fB s) (mV (bk s).data.toList 0 false):=by
  rw [e2,e3];rfl
 have eN:r7=true→bQ s lo hi =(0,4):=fun h=>by
  unfold bQ;simp only [];rw [←e7,h];rfl
 have eF:r7=false→bQ s lo hi=Cb (fB s) lo hi (mV (bk s).data.toList 0 false):=fun h=>by
  unfold bQ;simp only [];rw [←e7,h];rfl
 refine ⟨⟨fun h=>⟨⟨Int.le_refl _,hz h⟩,trivial⟩,fun _=>trivial⟩,fun _=>⟨⟨fun h=>⟨⟨by decide,by have:=h2 h;omega,Int.le_refl _⟩,trivial⟩,fun _=>trivial⟩,fun _=>⟨⟨fun _=>trivial,fun h=>⟨⟨Int.le_refl _,?_⟩,fun _=>⟨fun _=>trivial,fun _=>trivial⟩,fun _=>trivial⟩⟩,fun _=>⟨fun h=>by rw [eN h],fun h7=>⟨⟨rfl,Int.le_refl _,by omega,by rw [e3];exact hd⟩,?_⟩⟩⟩⟩⟩
 ·rw [hr4,e3]
  exact MV (by rw [←e5,h];rfl)
 ·rw [eF h7]
  rw [er] at hr8 hr9 ⊢
  cases hp:mV (bk s).data.toList 0 false with
  | none=>
   rw [hp] at hr8 hr9
   have:r8=true:=hr8
   exact ⟨fun _=>rfl,fun h=>absurd (this▸h) (by decide)⟩
  | some p=>
   rw [hp] at hr8 hr9
   have h8:r8=false:=hr8
   have h9:r9 =(lo,hi,fB s,p.1,p.2,()):=hr9
   rw [h9] at hr10 hr11 hr12 hr13
   simp only at hr10 hr11 hr12 hr13
   refine ⟨fun h=>absurd (h8▸h) (by decide),fun _=>?_⟩
   have c12:r12 =(p.2 ||(decide (p.1>9223372036854775808) ||(p.1==9223372036854775808&&!fB s))):=by
    rw [hr12]
    cases p.2 <;> cases decide (p.1>9223372036854775808) <;> cases (p.1==9223372036854775808) <;> rfl
   have c11:r11=if fB s then IntKind.i64.wrap (0 - IntKind.i64.wrap p.1) else IntKind.i64.wrap p.1:=by
    rw [hr11,hr10]
    cases fB s <;> rfl
   have c13:r13 =(decide (r11<lo)||decide (r11>hi)):=by
    rw [hr13]
    cases decide (r11<lo) <;> rfl
   unfold Cb
   simp only []
   rw [←c12,←c11,←c13]
   refine ⟨fun h=>by rw [h];rfl,fun h=>⟨fun h'=>by rw [h,h'];rfl,fun h'=>by rw [h,h'];rfl⟩⟩
def pA:FuncId×Ctr:=(74,ag KE qNr Lz JH)
theorem sN:CtrOK Tryz.prog KE 74 (ag KE qNr Lz JH):=by
 refine aZ (C:=aA [] Tryz.f74) (an (CtrsOK.nil) _) mixed (fn:=Tryz.f74) Tryz.func74 (by kernel_rfl) (by kernel_rfl) (by kernel_rfl) (by kernel_rfl) (by kernel_rfl) (by kernel_rfl) (Λ:=fun x=>find [(MA,Nf)]) ?_ ?_
 ·rintro ⟨s,lo,hi,⟨⟩⟩ hw hn
  exact LoopsOKp.at (by kernel_rfl) (.cons (by kernel_rfl) (OM) .nil)
 ·rintro ⟨s,lo,hi,⟨⟩⟩ hw hn
  exact Bg s lo hi (R6 (gG hw))
end Go.Proofs.YtffdpnmioidloaaGreatDoor
