/- Texts of the mirror and contracts, put together. -/
import Derived.Test.YtjcbhomccohklaaGreatDoorPD2
import Derived.Shelf.Strings.Prefix
import Derived.Shelf.Strings.SlTrimAscii
import Derived.Shelf.Strconv.ParseIntPublic10
import Derived.Shelf.Strings.Split
import Derived.Shelf.Small.Wraps
namespace Go.Proofs.YtjcbhomccohklaaGreatDoor
section
open Go Go.aa Go.RowKit Go.Shelf
def Ft:Go.Shelf.Ren:=⟨fun|101=>154|208=>183|206=>219|n=>n,fun|9=>9|4=>4|3=>3|n=>n,fun|n=>n⟩
theorem Si:Go.Proofs.Lays.n101 Tryz.prog Ft where
 mixed:=by kernel_rfl
 f101:=Tryz.func154.trans (congrArg some (by kernel_rfl))
 f206:=Tryz.func219.trans (congrArg some (by kernel_rfl))
 f208:=Tryz.func183.trans (congrArg some (by kernel_rfl))
 t3:=Tryz.underlying3
 a3:=Tryz.isAgg3
 z3:=Tryz.sizeOf3
 v3:=Tryz.zeroValue3
 t4:=Tryz.underlying4
 a4:=Tryz.isAgg4
 z4:=Tryz.sizeOf4
 v4:=Tryz.zeroValue4
 t9:=Tryz.underlying9
 a9:=Tryz.isAgg9
 z9:=Tryz.sizeOf9
 v9:=Tryz.zeroValue9
def Fv:Go.Shelf.Ren:=⟨fun|160=>155|232=>185|231=>184|227=>186|234=>188|233=>187|236=>190|235=>189|228=>220|271=>223|151=>222|197=>221|120=>256|152=>255|260=>254|137=>233|119=>284|224=>285|225=>286|217=>260|266=>288|n=>n,fun|9=>9|4=>4|3=>3|5=>5|117=>246|116=>245|0=>0|124=>249|21=>21|105=>268|46=>253|119=>315|139=>318|138=>317|n=>n,fun|3=>3|4=>4|n=>n⟩
theorem Sk:Go.Proofs.Lays.n160 Tryz.prog Fv where
 mixed:=by kernel_rfl
 f119:=Tryz.func284.trans (congrArg some (by kernel_rfl))
 f120:=Tryz.func256.trans (congrArg some (by kernel_rfl))
 f137:=Tryz.func233.trans (congrArg some (by kernel_rfl))
 f151:=Tryz.func222.trans (congrArg some (by kernel_rfl))
 f152:=Tryz.func255.trans (congrArg some (by kernel_rfl))
 f160:=Tryz.func155.trans (congrArg some (by kernel_rfl))
 f197:=Tryz.func221.trans (congrArg some (by kernel_rfl))
 f217:=Tryz.func260.trans (congrArg some (by kernel_rfl))
 f224:=Tryz.func285.trans (congrArg some (by kernel_rfl))
 f225:=Tryz.func286.trans (congrArg some (by kernel_rfl))
 f227:=Tryz.func186.trans (congrArg some (by kernel_rfl))
 f228:=Tryz.func220.trans (congrArg some (by kernel_rfl))
 f231:=Tryz.func184.trans (congrArg some (by kernel_rfl))
 f232:=Tryz.func185.trans (congrArg some (by kernel_rfl))
 f233:=Tryz.func187.trans (congrArg some (by kernel_rfl))
 f234:=Tryz.func188.trans (congrArg some (by kernel_rfl))
 f235:=Tryz.func189.trans (congrArg some (by kernel_rfl))
 f236:=Tryz.func190.trans (congrArg some (by kernel_rfl))
 f260:=Tryz.func254.trans (congrArg some (by kernel_rfl))
 f266:=Tryz.func288.trans (congrArg some (by kernel_rfl))
 f271:=Tryz.func223.trans (congrArg some (by kernel_rfl))
 t0:=Tryz.underlying0
 a0:=Tryz.isAgg0
 z0:=Tryz.sizeOf0
 v0:=Tryz.zeroValue0
 t3:=Tryz.underlying3
 a3:=Tryz.isAgg3
 z3:=Tryz.sizeOf3
 v3:=Tryz.zeroValue3
 t4:=Tryz.underlying4
 a4:=Tryz.isAgg4
 z4:=Tryz.sizeOf4
 v4:=Tryz.zeroValue4
 t5:=Tryz.underlying5
 a5:=Tryz.isAgg5
 z5:=Tryz.sizeOf5
 v5:=Tryz.zeroValue5
 t9:=Tryz.underlying9
 a9:=Tryz.isAgg9
 z9:=Tryz.sizeOf9
 v9:=Tryz.zeroValue9
 t21:=Tryz.underlying21
 a21:=Tryz.isAgg21
 z21:=Tryz.sizeOf21
 v21:=Tryz.zeroValue21
 t46:=Tryz.underlying253
 a46:=Tryz.isAgg253
 z46:=Tryz.sizeOf253
 v46:=Tryz.zeroValue253
 t105:=Tryz.underlying268
 a105:=Tryz.isAgg268
 z105:=Tryz.sizeOf268
 v105:=Tryz.zeroValue268
 t116:=Tryz.underlying245
 a116:=Tryz.isAgg245
 z116:=Tryz.sizeOf245
 t117:=Tryz.underlying246
 a117:=Tryz.isAgg246
 z117:=Tryz.sizeOf246
 v117:=Tryz.zeroValue246
 t119:=Tryz.underlying315
 a119:=Tryz.isAgg315
 z119:=Tryz.sizeOf315
 t124:=Tryz.underlying249
 a124:=Tryz.isAgg249
 z124:=Tryz.sizeOf249
 v124:=Tryz.zeroValue249
 t138:=Tryz.underlying317
 a138:=Tryz.isAgg317
 z138:=Tryz.sizeOf317
 v138:=Tryz.zeroValue317
 t139:=Tryz.underlying318
 a139:=Tryz.isAgg318
 z139:=Tryz.sizeOf318
 v139:=Tryz.zeroValue318
 g3:=by kernel_rfl
 g4:=by kernel_rfl
def iE:ByteArray:=⟨#[45]⟩
def oo:ByteArray:=⟨#[48,49,50,51,52,53,54,55,56,57]⟩
def mP (s:ByteArray):Bool:=
 let d:=Lib.trimPrefix s.data.toList iE.data.toList
 !(d.isEmpty ||(d.headD 0==48&&!(s.toList==[48])))&&(Lib.trimS d oo.data.toList).isEmpty
theorem V2 {b:UInt8} (h :(b.toNat:Int)=48):b=48:=UInt8.toNat_inj.1 (by show b.toNat=48;omega)
set_option maxHeartbeats 3200000 in
theorem lA (s:ByteArray) (w:World) (hs:s.size<=aW):Calls Tryz.prog 124 #[.string s] w fun e w'=>e = .returned (.bool (mP s))/\Below w.heap.size w w':=by
 have hl :(Lib.trimPrefix s.data.toList iE.data.toList).length<=aW:=by
  unfold Lib.trimPrefix
  have:s.data.toList.length<=aW:=by rw [Array.length_toList];exact hs
  split
  ·rw [List.length_drop];omega
  ·exact this
 have cT :∀ w,Calls Tryz.prog 155 #[.string ⟨(Lib.trimPrefix s.data.toList iE.data.toList).toArray⟩,.string oo] w fun e w'=>e = .returned (.string ⟨(Lib.trimS (Lib.trimPrefix s.data.toList iE.data.toList) oo.data.toList).toArray⟩)/\Below w.heap.size w w':=fun w=>
  Any.strings_Trim_laid Sk (by kernel_rfl) ⟨(Lib.trimPrefix s.data.toList iE.data.toList).toArray⟩ oo w (by show (Lib.trimPrefix s.data.toList iE.data.toList).toArray.size<=_;rw [List.size_toArray];exact Nat.le_trans hl (by decide)) (by decide) (ascii_of_all (by decide))
 have cP :∀ w,Calls Tryz.prog 154 #[.string s,.string iE] w fun e w'=>e = .returned (.string ⟨(Lib.trimPrefix s.data.toList iE.data.toList).toArray⟩)/\w'=w:=fun w=>Any.strings_TrimPrefix Si s iE w;unfold mP;generalize Lib.trimPrefix s.data.toList iE.data.toList=d at *;unfold iE at cP;unfold oo at cT
 go_enter Tryz.func124,Tryz.ntmps124
 go_wp2_with (first |(go_at_call 154;refine (cP _).mono ?_;rintro e w' ⟨rfl,rfl⟩) |(go_at_call 155;refine (cT _).mono ?_;rintro e w' ⟨rfl,hB⟩))
 all_goals (try go_ret)
 ·rename_i h;subst h;exact ⟨congrArg (fun b=>Ending.returned (.bool b)) (by rfl),Below.refl _ _⟩
 ·rename_i h3 h2 h1 h
  cases d with
  | nil=>exact absurd rfl h3
  | cons b t=>
  have hb:b=48:=V2 h1;rcases h with h|h
  ·exact absurd h (by simp)
  subst hb;refine ⟨congrArg (fun b=>Ending.returned (.bool b)) ?_,Below.refl _ _⟩;simp [h]
 ·rename_i h3 h2 h1 h
  cases d with
  | nil=>exact absurd rfl h3
  | cons b t=>
  have hb:b=48:=V2 h1;subst hb;refine ⟨congrArg (fun b=>Ending.returned (.bool b)) ?_,by assumption⟩;show (Lib.trimS _ oo.data.toList).isEmpty=_;simp [h.2]
 ·rename_i h3 h2 h1 h
  cases d with
  | nil=>exact absurd rfl h3
  | cons b t=>exact absurd h (by simp)
 ·rename_i h3 h2 h1 h
  cases d with
  | nil=>exact absurd rfl h3
  | cons b t=>
  have hb :(b==48)=false:=by
   cases hb:b==48
   ·rfl
   ·exact absurd (by have:=eq_of_beq hb;subst this;rfl) h1
  refine ⟨congrArg (fun b=>Ending.returned (.bool b)) ?_,by assumption⟩;show (Lib.trimS _ oo.data.toList).isEmpty=_;simp [hb]
 ·rename_i h;exact absurd (List.length_pos_iff.2 (by assumption)) h
end
section
open Go Go.aa Go.RowKit Go.Shelf
def Fx:Go.Shelf.Ren:=⟨fun|174=>125|247=>156|245=>157|287=>191|279=>192|280=>193|281=>194|282=>195|321=>224|322=>225|316=>226|171=>228|205=>227|243=>257|246=>218|283=>250|284=>251|285=>252|286=>253|129=>280|317=>279|318=>281|319=>282|320=>283|337=>319|338=>320|n=>n,fun|9=>9|3=>3|2=>2|75=>196|85=>197|4=>4|167=>250|5=>5|53=>242|175=>251|46=>253|168=>254|37=>214|0=>0|210=>274|21=>21|127=>297|145=>300|143=>298|171=>291|173=>294|212=>311|51=>312|20=>20|213=>313|232=>343|233=>344|80=>135|n=>n,fun|15=>0|16=>1|17=>2|18=>6|19=>7|n=>n⟩
theorem CY:Go.Proofs.LaysC.n174 Tryz.prog Fx where
 mixed:=by kernel_rfl
 f129:=Tryz.func280.trans (congrArg some (by kernel_rfl))
 f171:=Tryz.func228.trans (congrArg some (by kernel_rfl))
 f174:=Tryz.func125.trans (congrArg some (by kernel_rfl))
 f205:=Tryz.func227.trans (congrArg some (by kernel_rfl))
 f243:=Tryz.func257.trans (congrArg some (by kernel_rfl))
 f245:=Tryz.func157.trans (congrArg some (by kernel_rfl))
 f246:=Tryz.func218.trans (congrArg some (by kernel_rfl))
 f247:=Tryz.func156.trans (congrArg some (by kernel_rfl))
 f279:=Tryz.func192.trans (congrArg some (by kernel_rfl))
 f280:=Tryz.func193.trans (congrArg some (by kernel_rfl))
 f281:=Tryz.func194.trans (congrArg some (by kernel_rfl))
 f282:=Tryz.func195.trans (congrArg some (by kernel_rfl))
 f283:=Tryz.func250.trans (congrArg some (by kernel_rfl))
 f284:=Tryz.func251.trans (congrArg some (by kernel_rfl))
 f285:=Tryz.func252.trans (congrArg some (by kernel_rfl))
 f286:=Tryz.func253.trans (congrArg some (by kernel_rfl))
 f287:=Tryz.func191.trans (congrArg some (by kernel_rfl))
 f316:=Tryz.func226.trans (congrArg some (by kernel_rfl))
 f317:=Tryz.func279.trans (congrArg some (by kernel_rfl))
 f318:=Tryz.func281.trans (congrArg some (by kernel_rfl))
 f319:=Tryz.func282.trans (congrArg some (by kernel_rfl))
 f320:=Tryz.func283.trans (congrArg some (by kernel_rfl))
 f321:=Tryz.func224.trans (congrArg some (by kernel_rfl))
 f322:=Tryz.func225.trans (congrArg some (by kernel_rfl))
 f337:=Tryz.func319.trans (congrArg some (by kernel_rfl))
 f338:=Tryz.func320.trans (congrArg some (by kernel_rfl))
 t0:=Tryz.underlying0
 a0:=Tryz.isAgg0
 z0:=Tryz.sizeOf0
 v0:=Tryz.zeroValue0
 t2:=Tryz.underlying2
 a2:=Tryz.isAgg2
 z2:=Tryz.sizeOf2
 v2:=Tryz.zeroValue2
 t3:=Tryz.underlying3
 a3:=Tryz.isAgg3
 z3:=Tryz.sizeOf3
 v3:=Tryz.zeroValue3
 t4:=Tryz.underlying4
 a4:=Tryz.isAgg4
 z4:=Tryz.sizeOf4
 v4:=Tryz.zeroValue4
 t5:=Tryz.underlying5
 a5:=Tryz.isAgg5
 z5:=Tryz.sizeOf5
 v5:=Tryz.zeroValue5
 t9:=Tryz.underlying9
 a9:=Tryz.isAgg9
 z9:=Tryz.sizeOf9
 v9:=Tryz.zeroValue9
 t20:=Tryz.underlying20
 a20:=Tryz.isAgg20
 z20:=Tryz.sizeOf20
 v20:=Tryz.zeroValue20
 t21:=Tryz.underlying21
 a21:=Tryz.isAgg21
 z21:=Tryz.sizeOf21
 v21:=Tryz.zeroValue21
 t37:=Tryz.underlying214
 a37:=Tryz.isAgg214
 z37:=Tryz.sizeOf214
 v37:=Tryz.zeroValue214
 t46:=Tryz.underlying253
 a46:=Tryz.isAgg253
 z46:=Tryz.sizeOf253
 v46:=Tryz.zeroValue253
 t51:=Tryz.underlying312
 a51:=Tryz.isAgg312
 z51:=Tryz.sizeOf312
 v51:=Tryz.zeroValue312
 t53:=Tryz.underlying242
 a53:=Tryz.isAgg242
 z53:=Tryz.sizeOf242
 v53:=Tryz.zeroValue242
 t75:=Tryz.underlying196
 a75:=Tryz.isAgg196
 z75:=Tryz.sizeOf196
 v75:=Tryz.zeroValue196
 t85:=Tryz.underlying197
 a85:=Tryz.isAgg197
 z85:=Tryz.sizeOf197
 v85:=Tryz.zeroValue197
 t127:=Tryz.underlying297
 a127:=Tryz.isAgg297
 z127:=Tryz.sizeOf297
 v127:=Tryz.zeroValue297
 t143:=Tryz.underlying298
 a143:=Tryz.isAgg298
 z143:=Tryz.sizeOf298
 v143:=Tryz.zeroValue298
 t145:=Tryz.underlying300
 a145:=Tryz.isAgg300
 z145:=Tryz.sizeOf300
 v145:=Tryz.zeroValue300
 t167:=Tryz.underlying250
 a167:=Tryz.isAgg250
 z167:=Tryz.sizeOf250
 v167:=Tryz.zeroValue250
 t168:=Tryz.underlying254
 a168:=Tryz.isAgg254
 z168:=Tryz.sizeOf254
 v168:=Tryz.zeroValue254
 t171:=Tryz.underlying291
 a171:=Tryz.isAgg291
 z171:=Tryz.sizeOf291
 v171:=Tryz.zeroValue291
 t173:=Tryz.underlying294
 a173:=Tryz.isAgg294
 z173:=Tryz.sizeOf294
 v173:=Tryz.zeroValue294
 t175:=Tryz.underlying251
 a175:=Tryz.isAgg251
 z175:=Tryz.sizeOf251
 v175:=Tryz.zeroValue251
 t210:=Tryz.underlying274
 a210:=Tryz.isAgg274
 z210:=Tryz.sizeOf274
 v210:=Tryz.zeroValue274
 t212:=Tryz.underlying311
 a212:=Tryz.isAgg311
 z212:=Tryz.sizeOf311
 v212:=Tryz.zeroValue311
 t213:=Tryz.underlying313
 a213:=Tryz.isAgg313
 z213:=Tryz.sizeOf313
 t232:=Tryz.underlying343
 a232:=Tryz.isAgg343
 z232:=Tryz.sizeOf343
 v232:=Tryz.zeroValue343
 t233:=Tryz.underlying344
 a233:=Tryz.isAgg344
 z233:=Tryz.sizeOf344
 v233:=Tryz.zeroValue344
 g15:=by kernel_rfl
 g16:=by kernel_rfl
 g17:=by kernel_rfl
 g18:=by kernel_rfl
 g19:=by kernel_rfl
 t80:=Tryz.underlying135
 a80:=Tryz.isAgg135
 z80:=Tryz.sizeOf135
 v80:=Tryz.zeroValue135
 i0:=by kernel_rfl
 i2:=by kernel_rfl
 i3:=by kernel_rfl
 i4:=by kernel_rfl
 i5:=by kernel_rfl
 i9:=by kernel_rfl
 i20:=by kernel_rfl
 i21:=by kernel_rfl
 i37:=by kernel_rfl
 i46:=by kernel_rfl
 i51:=by kernel_rfl
 i53:=by kernel_rfl
 i75:=by kernel_rfl
 i80:=by kernel_rfl
 i85:=by kernel_rfl
 i127:=by kernel_rfl
 i143:=by kernel_rfl
 i145:=by kernel_rfl
 i167:=by kernel_rfl
 i168:=by kernel_rfl
 i171:=by kernel_rfl
 i173:=by kernel_rfl
 i175:=by kernel_rfl
 i210:=by kernel_rfl
 i212:=by kernel_rfl
 i232:=by kernel_rfl
 i233:=by kernel_rfl
 m15:=by kernel_rfl
 m16:=by kernel_rfl
 m17:=by kernel_rfl
 m18:=by kernel_rfl
 m19:=by kernel_rfl
 c0:=by kernel_rfl
 c2:=by kernel_rfl
 c3:=by kernel_rfl
 c4:=by kernel_rfl
 c5:=by kernel_rfl
 c9:=by kernel_rfl
 c20:=by kernel_rfl
 c21:=by kernel_rfl
 c37:=by kernel_rfl
 c46:=by kernel_rfl
 c51:=by kernel_rfl
 c53:=by kernel_rfl
 c75:=by kernel_rfl
 c80:=by kernel_rfl
 c85:=by kernel_rfl
 c127:=by kernel_rfl
 c143:=by kernel_rfl
 c145:=by kernel_rfl
 c167:=by kernel_rfl
 c168:=by kernel_rfl
 c171:=by kernel_rfl
 c173:=by kernel_rfl
 c175:=by kernel_rfl
 c210:=by kernel_rfl
 c212:=by kernel_rfl
 c213:=by kernel_rfl
 c232:=by kernel_rfl
 c233:=by kernel_rfl
def dX (s:ByteArray) (lo hi:Int):Int×Int:=
 if mP s then
  match Lib.parseIntB 64 s.data.toList with
  | .ok v=>if v<lo\/hi<v then (0,2) else (v,0)
  | _=>(0,2)
 else (0,4)
theorem Ev (w:World) (T:TypeId) (s:ByteArray):Below w.heap.size w (Lib.bytesWorld w T s):=
 ⟨rfl,rfl,rfl,by rw [Lib.bytesWorld_size];omega,fun k hk=>Lib.bytesWorld_at_old w T s k hk⟩
def gq (w:World) (b:Nat):Prop:=∃ o,w.heap[b]?=some o/\tY o
theorem gq.below {w w':World} {b:Nat} (h:gq w b) (hB:Below w.heap.size w w'):gq w' b:=by
 obtain ⟨o,h1,h2⟩:=h;refine ⟨o,?_,h2⟩;rw [hB.block b]
 ·exact h1
 ·rcases Nat.lt_or_ge b w.heap.size with h|h
  ·exact h
  ·rw [Array.getElem?_eq_none h] at h1;cases h1
theorem gq.at {w:World} {b:Nat} (h:gq w b) :∃ ev,w.cell? ⟨b,0,none⟩=some ev/\∃ te pe,ev = .iface te pe:=by obtain ⟨o,h1,te,pe,T,fr,rfl⟩:=h;exact ⟨_,by simp [World.cell?,h1],te,pe,rfl⟩
theorem Mv (s:ByteArray) (hs:s.size<=aW) (h :∀ v,Lib.parseIntB 64 s.data.toList≠ .ok v) (w:World) (h2:gq w 0) (h3:gq w 1) :
  Calls Tryz.prog 125 #[.string s,.int .i64 10,.int .i64 64] w fun e w'=>∃ z te pe,e = .returned (.tuple #[.int .i64 z,.iface te pe])/\Below w.heap.size w w':=by
 have hl:s.size<=281474976710656:=Nat.le_trans hs (by decide);obtain ⟨e2,c2,v2⟩:=h2.at;obtain ⟨e3,c3,v3⟩:=h3.at;cases hp:Lib.parseIntB 64 s.data.toList
 case ok v=>exact absurd hp (h v)
 case range=>exact (Any.strconv_ParseInt_10_at64_range CY s hl hp _ w c3 (.inr v3)).mono fun e w' ⟨N,h1,_,_,hB⟩=>⟨_,_,_,h1,hB⟩
 exact (Any.strconv_ParseInt_10_at64_syntax CY s hl hp _ w c2 (.inr v2)).mono fun e w' ⟨N,h1,_,_,hB⟩=>⟨_,_,_,h1,hB⟩
theorem Pz (s:ByteArray) (hs:s.size<=aW) {v:Int} (h:Lib.parseIntB 64 s.data.toList = .ok v) (w:World) :
  Calls Tryz.prog 125 #[.string s,.int .i64 10,.int .i64 64] w fun e w'=>e = .returned (.tuple #[.int .i64 v,.nilIface])/\Below w.heap.size w w':=
 (Any.strconv_ParseInt_10_at64_ok CY s (Nat.le_trans hs (by decide)) v h w).mono fun e w' ⟨h1,h2⟩=>⟨h1,by
  rcases h2 with rfl |⟨t,rfl⟩
  ·exact Below.refl _ _
  ·exact Ev _ _ _⟩
def M6 (w:World) (a b:Int) (e:Ending) (w':World):Prop:=e = .returned (.tuple #[.int .i64 a,.int .i64 b])/\Below w.heap.size w w'
set_option maxHeartbeats 3200000 in
theorem Mo (s:ByteArray) (lo hi:Int) (w:World) (hs:s.size<=aW) (hb:mP s=false) :
  Calls Tryz.prog 78 #[.string s,.int .i64 lo,.int .i64 hi] w (M6 w 0 4):=by
 have cD :∀ w,Calls Tryz.prog 124 #[.string s] w fun e w'=>e = .returned (.bool (mP s))/\Below w.heap.size w w':=fun w=>lA s w hs;rw [hb] at cD
 go_enter Tryz.func78,Tryz.ntmps78
 go_wp2_with (go_at_call 124;refine (cD _).mono ?_;rintro e w' ⟨rfl,hB⟩)
 go_ret2
 exact ⟨rfl,by assumption⟩
set_option maxHeartbeats 3200000 in
theorem xm (s:ByteArray) (lo hi:Int) (w:World) (hs:s.size<=aW) (hb:mP s=true) (h :∀ v,Lib.parseIntB 64 s.data.toList≠ .ok v) (h2:gq w 0) (h3:gq w 1) :
  Calls Tryz.prog 78 #[.string s,.int .i64 lo,.int .i64 hi] w (M6 w 0 2):=by
 have cD :∀ w,Calls Tryz.prog 124 #[.string s] w fun e w'=>e = .returned (.bool (mP s))/\Below w.heap.size w w':=fun w=>lA s w hs;rw [hb] at cD;have cI:=fun w=>Mv s hs h w
 go_enter Tryz.func78,Tryz.ntmps78
 go_wp2_with (first |(go_at_call 124;refine (cD _).mono ?_;rintro e w' ⟨rfl,hB⟩) |(go_at_call 125;refine (cI _ (h2.below hB) (h3.below hB)).mono ?_;rintro e w'' ⟨z,te,pe,rfl,hB2⟩))
 go_ret2
 exact ⟨rfl,hB.trans (hB2.mono hB.size)⟩
set_option maxHeartbeats 3200000 in
theorem Bi (s:ByteArray) (lo hi:Int) (w:World) (hs:s.size<=aW) (hb:mP s=true) {v:Int} (h:Lib.parseIntB 64 s.data.toList = .ok v) :
  Calls Tryz.prog 78 #[.string s,.int .i64 lo,.int .i64 hi] w fun e w'=>((v<lo\/hi<v)->M6 w 0 2 e w')/\(¬(v<lo\/hi<v)->M6 w v 0 e w'):=by
 have cD :∀ w,Calls Tryz.prog 124 #[.string s] w fun e w'=>e = .returned (.bool (mP s))/\Below w.heap.size w w':=fun w=>lA s w hs;rw [hb] at cD;have cI:=fun w=>Pz s hs h w
 go_enter Tryz.func78,Tryz.ntmps78
 go_wp2_with (first |(go_at_call 124;refine (cD _).mono ?_;rintro e w' ⟨rfl,hB⟩) |(go_at_call 125;refine (cI _).mono ?_;rintro e w'' ⟨rfl,hB2⟩))
 all_goals go_ret2
 ·exact ⟨fun _=>⟨rfl,hB.trans (hB2.mono hB.size)⟩,fun h=>absurd (by assumption) h⟩
 ·rename_i _ hr;exact ⟨fun h=>by omega,fun _=>⟨rfl,hB.trans (hB2.mono hB.size)⟩⟩
 ·exact ⟨rfl,hB.trans (hB2.mono hB.size)⟩
theorem Dc (s:ByteArray) (lo hi:Int) (w:World) (hs:s.size<=aW) (h2:gq w 0) (h3:gq w 1) :
  Calls Tryz.prog 78 #[.string s,.int .i64 lo,.int .i64 hi] w (M6 w (dX s lo hi).1 (dX s lo hi).2):=by
 unfold dX
 cases hb:mP s with
 | false=>exact Mo s lo hi w hs hb
 | true=>
  simp only [if_true];cases hp:Lib.parseIntB 64 s.data.toList
  case range=>exact xm s lo hi w hs hb (fun v h=>by rw [hp] at h;cases h) h2 h3
  case ok v=>
   simp only [];by_cases hr:v<lo\/hi<v
   ·rw [if_pos hr];exact (Bi s lo hi w hs hb hp).mono fun e w' h=>h.1 hr
   ·rw [if_neg hr];exact (Bi s lo hi w hs hb hp).mono fun e w' h=>h.2 hr
  exact xm s lo hi w hs hb (fun v h=>by rw [hp] at h;cases h) h2 h3
theorem FY (s:ByteArray) (lo hi:Int) :(dX s lo hi).1=0\/(lo<=(dX s lo hi).1/\(dX s lo hi).1<=hi):=by
 unfold dX
 repeat' split
 all_goals first|exact .inl rfl |(refine .inr ?_;show _<=_/\_<=_;omega)
theorem J3 (s:ByteArray) (lo hi:Int) (k1:ok .i64 lo) (k2:ok .i64 hi):ok .i64 (dX s lo hi).1/\ok .i64 (dX s lo hi).2:=by
 have e1:IntKind.i64.min = -9223372036854775808:=by decide
 have e2:IntKind.i64.max=9223372036854775807:=by decide
 have hz:=FY s lo hi
 have h0 :(dX s lo hi).2=0\/(dX s lo hi).2=2\/(dX s lo hi).2=4:=by
  unfold dX
  repeat' split
  all_goals simp
 unfold ok at *;rw [e1,e2] at k1 k2 ⊢;constructor
 ·rcases hz with hz|hz <;> omega
 ·rcases h0 with hz|hz|hz <;> omega
theorem wm {w:World} {b:Nat} {p:Obj->Prop} (h:qG w fun _=>False) (hm :(b,p)∈GL) (hp :∀ o,p o->tY o):gq w b:=by obtain ⟨⟨o,h1,h2⟩,_⟩:=h (b,p) hm;exact ⟨o,h1,hp o h2⟩
abbrev PK:Ty:= .prod .str (.prod (.int .i64) (.prod (.int .i64) .unit))
def Ks:Den PK->mL:=fun x=>⟨[],.tup [.int .i64 (dX x.1 x.2.1 x.2.2.1).1,.int .i64 (dX x.1 x.2.1 x.2.2.1).2],[]⟩
def Fq:FuncId×dR:=(78,bq KE PK Ks)
theorem Fm {w w':World} (h:Below w.heap.size w w'):dA w (fun _=>False) w':=
 ⟨h.os,h.tape,h.output,h.size,fun b hb _=>h.block b hb⟩
set_option maxHeartbeats 1600000 in
theorem Mr:aR Tryz.prog KE 78 (bq KE PK Ks):=by
 refine s7 Tryz.func78 (by kernel_rfl) (by kernel_rfl) (fun _=>⟨rfl,rfl⟩) (fun x av w E hw _ hg hav=>?_) (fun _ _=>rfl);obtain ⟨s,lo,hi,⟨⟩⟩:=x;obtain ⟨a,r,rfl,⟨rfl,hs⟩,h1⟩:=eE hav;obtain ⟨a,r,rfl,⟨rfl,k1⟩,h2⟩:=eE h1;obtain ⟨a,r,rfl,⟨rfl,k2⟩,h3⟩:=eE h2;have h5:r=[]:=by cases r with|nil=>rfl|cons=>simp [fq,ai] at h3
 subst h5;refine (Dc s lo hi w hs (wm hg (p:=tY) (by unfold GL;simp) fun _ h=>h) (wm hg (p:=tY) (by unfold GL;simp) fun _ h=>h)).mono fun e w' ⟨he,hB⟩=>⟨_,he,Fm hB,fun E'=>?_⟩;exact ⟨_,rfl,⟨rfl,(J3 s lo hi k1 k2).1⟩,⟨rfl,(J3 s lo hi k1 k2).2⟩,trivial⟩
end
section
open Go Go.aa Go.RowKit Go.Shelf
def vd (l:List UInt8):ByteArray:=⟨l.toArray⟩
end
section
open Go Go.aa
attribute [local irreducible] Go.aa.DT.sat Go.aa.a8 Go.aa.RT.sat Go.aa.dD
theorem Ui (s:ByteArray) (a i:Nat):vd ((s.data.toList.take i).drop a)=s.extract a i:=by apply ByteArray.ext;apply Array.ext';show ((s.data.toList.take i).drop a)=_;rw [Lib.extract_data];simp [Array.toList_extract,List.extract_eq_take_drop,List.drop_take]
theorem eqC {c:Int} (b:UInt8) (h0:0<=c) (h1:c<256) :((b.toNat:Int)==c) =(b==UInt8.ofNat c.toNat):=by
 apply Bool.eq_iff_iff.2;simp only [beq_iff_eq];constructor
 ·intro h
  have:c.toNat=b.toNat:=by omega
  rw [this];simp
 ·rintro rfl
  have:c.toNat<256:=by omega
  simp [UInt8.toNat_ofNat'];omega
abbrev MY:bl:=cQ [I]
abbrev qTw:bl:=cQ [I,I]
abbrev mr:bl:=cQ [.str]
def C9 (n:Int):Prop:=0<=n/\n<=1000000000000
def Yj (w:Int):Prop:=w=1
def Qu:Den (bj qTw)->List Prop×Den (bj mr):=fun x=>([C9 x.1,Yj x.2.1],(gU x.1,()))
def Qo:Den (bj MY)->List Prop×Den (bj mr):=fun x=>([C9 x.1],(gU x.1,()))
abbrev qPt:bl:=⟨[(1,.h I),(5,.h .str),(6,.h (.int .u64)),(7,.h .str),(8,.h .str)],[],0⟩
abbrev xPt:List (Lf×bl):= [(.ext 0,⟨[(5,.h .str),(8,.h .str)],[],0⟩)]
abbrev TPt:Type:=Int×ByteArray×Int×ByteArray×ByteArray×Unit
def QU:ByteArray:=⟨#[48,49,50,51,52,53,54,55,56,57]⟩
def Di (n:Int):ByteArray:=QU.extract n.toNat (n+1).toNat
def xB (u:Int) (s:ByteArray):ByteArray:=if decide (u>0)||decide ((s.size:Int)<1) then vd (Lib.decDigits u.toNat++s.data.toList) else s
def An (x:TPt):Prop:=x.1=1/\(0<=x.2.2.1/\x.2.2.1<=1000000000000)/\x.2.2.2.1=QU/\(x.2.2.2.2.1.size:Int)+x.2.2.1<=2000000000000
def O9 (x:TPt):Nat:=x.2.2.1.toNat +(if x.2.2.2.2.1.size=0 then 1 else 0)
def uZ (x:TPt):ByteArray×ByteArray×Unit:=(x.2.1,xB x.2.2.1 x.2.2.2.2.1,())
theorem qM {a b:ByteArray} (h:a.data.toList=b.data.toList):a=b:=ByteArray.ext (Array.toList_inj.1 h)
theorem BP {n:Int} (h0:0<=n) (h1:n<18446744073709551616):IntKind.u64.wrap n=n:=by simp only [IntKind.wrap,IntKind.bits,IntKind.signed];simp;omega
theorem Bl {n:Int} (h0:0<=n) (h1:n<=9) :(Di n).data.toList=[UInt8.ofNat (48+n.toNat)]:=by
 have key :((List.range 10).all fun k=>(Di (k:Int)).data.toList==[UInt8.ofNat (48+k)])=true:=by kernel_rfl
 have:=List.all_eq_true.1 key n.toNat (List.mem_range.2 (by omega))
 rw [show ((n.toNat:Nat):Int)=n from by omega] at this;exact eq_of_beq this
theorem Bm {n:Int} (h0:0<=n) (h1:n<=9) :(Di n).size=1:=by
 have :(Di n).data.toList.length=1:=by rw [Bl h0 h1];rfl
 rw [Array.length_toList] at this;exact this
theorem Py {u:Int} {s:ByteArray} (h0:0<=u) (hb :(decide (u>0)||decide ((s.size:Int)<1))=true):xB (u / 10) (Di (u % 10)++s)=xB u s:=by
 have z :(Di (u % 10)++s).size=1+s.size:=by rw [ByteArray.size_append,Bm (by omega) (by omega)]
 have l :(Di (u % 10)++s).data.toList=UInt8.ofNat (48 +(u % 10).toNat)::s.data.toList:=by rw [ByteArray.data_append,Array.toList_append,Bl (by omega) (by omega)];rfl
 have hd:decide (((Di (u % 10)++s).size:Int)<1)=false:=decide_eq_false (by rw [z];omega);unfold xB;rw [hd,Bool.or_false,if_pos hb];by_cases h10:u / 10>0
 ·rw [if_pos (decide_eq_true h10),l];have hu :¬ u.toNat<10:=by omega
  have e1 :(u / 10).toNat=u.toNat / 10:=by omega
  have e2 :(u % 10).toNat=u.toNat % 10:=by omega
  conv=>rhs;rw [Lib.decDigits,dif_neg hu]
  rw [e1,e2,List.append_assoc];rfl
 ·rw [if_neg (by simpa using h10)];apply qM;rw [l];have hu:u.toNat<10:=by omega
  have e2 :(u % 10).toNat=u.toNat:=by omega
  rw [Lib.decDigits,dif_pos hu,e2];rfl
noncomputable def L6:Lp:=(⟨0,aI [] Tryz.f153,(fun _=>none),(aC Tryz.f153 0),qPt,xPt⟩:Lp)
theorem Zv (w:Int) (sg:ByteArray) (u:Int) (dg:ByteArray) (s:ByteArray) (hi:An (w,sg,u,dg,s,())) :(Go.aa.stepG L6 uZ (fun y:Den (bj L6.q)=>An y/\O9 y<O9 (w,sg,u,dg,s,())) (w,sg,u,dg,s,())/\Go.aa.bB L6 uZ (w,sg,u,dg,s,())=uZ (w,sg,u,dg,s,())):=by
 refine cast (by kernel_rfl) (?_:let r1:Int:=IntKind.u64.wrap (u.tmod (10:Int)+1);let r2:Int:=if 20<w then 20 else w;let r3:ByteArray:=dg.extract (u.tmod 10).toNat r1.toNat;let r4:Int:=if r2>1 then r2 else 1;let r5:Bool:=cond (decide (u>0)) true (decide ((↑s.size:Int)<r4));((r5=true->(10:Int)≠0/\(10:Int)≠0/\(0<=u.tmod 10/\u.tmod 10<=r1/\r1<=(↑dg.size:Int))/\r3.size+s.size<=aW/\(10:Int)≠0/\An (w,sg,IntKind.u64.wrap (u.tdiv 10),dg,r3++s,())/\O9 (w,sg,IntKind.u64.wrap (u.tdiv 10),dg,r3++s,())<O9 (w,sg,u,dg,s,()))/\(r5=false->True))/\(cond r5 (uZ (w,sg,IntKind.u64.wrap (u.tdiv 10),dg,r3++s,())) (sg,s,()))=uZ (w,sg,u,dg,s,()));intro r1 r2 r3 r4 r5
 clear_value (hr1:r1=_) (hr2:r2=_) (hr3:r3=_) (hr4:r4=_) (hr5:r5=_)
 obtain ⟨h1,⟨h2,h3⟩,h4,h5⟩:=hi;have h1:w=1:=h1;have h2:0<=u:=h2;have h3:u<=1000000000000:=h3;have h4:dg=QU:=h4;have h5 :(s.size:Int)+u<=2000000000000:=h5;have et:u.tmod 10=u % 10:=Int.tmod_eq_emod_of_nonneg h2;have ed:u.tdiv 10=u / 10:=Int.tdiv_eq_ediv_of_nonneg h2;rw [ed];rw [et] at hr1 hr3 ⊢;have e1:r1=u % 10+1:=by rw [hr1];exact BP (by omega) (by omega)
 have e2:r2=1:=by rw [hr2,h1];rfl
 have e4:r4=1:=by rw [hr4,e2];rfl
 have e3:r3=Di (u % 10):=by rw [hr3,e1,h4];rfl
 have z3:=Bm (n:=u % 10) (by omega) (by omega);have zs :(r3++s).size=1+s.size:=by rw [ByteArray.size_append,e3,z3]
 have eW:IntKind.u64.wrap (u / 10)=u / 10:=BP (by omega) (by omega);have hL :(3000000000000:Nat)<=aW:=by decide
 have e5:r5 =(decide (u>0)||decide ((s.size:Int)<1)):=by rw [hr5,e4];cases decide (u>0) <;> rfl
 have hc:r5=true->u>0\/(s.size:Int)<1:=fun h=>by rw [e5] at h;simpa using h
 have z10 :(QU.size:Int)=10:=rfl;rw [eW];refine ⟨⟨fun h=>⟨by decide,by decide,⟨by omega,by omega,by rw [h4];omega⟩,by rw [e3,z3];omega,by decide,⟨h1,⟨by show 0<=u / 10;omega,by show u / 10<=1000000000000;omega⟩,h4,?_⟩,?_⟩,fun _=>trivial⟩,?_⟩
 ·show ((r3++s).size:Int)+u / 10<=2000000000000;rw [zs];rcases hc h with h|h <;> omega
 ·show (u / 10).toNat +(if (r3++s).size=0 then 1 else 0)<u.toNat +(if s.size=0 then 1 else 0);rw [zs,if_neg (by omega)];rcases hc h with h|h
  ·omega
  ·rw [if_pos (by omega)];omega
 ·cases hb:r5 with
  | true=>
   show (sg,xB (u / 10) (r3++s),()) =(sg,xB u s,());rw [e3,Py h2 (e5▸hb)]
  | false=>rw [e5] at hb;show (sg,s,()) =(sg,xB u s,());unfold xB;rw [hb];rfl
noncomputable def VO:aw:=aq L6 uZ An
noncomputable def Vf:Nat:=fo (aC Tryz.f153 0)
theorem XO:aJ Tryz.prog 0 Tryz.f153.ntmps (aC Tryz.f153 0) (aq L6 uZ An):=
 aD L6 (az (aZ.nil) _) mixed (fun b hb S hS=>by cases hS) uZ An O9 (fun |⟨w,sg,u,dg,s,⟨⟩⟩,hi=>Zv w sg u dg s hi)
theorem GR (n:Int) (w:Int) (hk:C9 n) (hw1:Yj w) :(a8 (aI [] Tryz.f153) (find [(Vf,VO)]) Tryz.f153 qTw mr (n,w,())).sat fun z_=>z_ =(Qu (n,w,())).2:=by
 refine cast (by kernel_rfl) (?_:let r1:Bool:=decide (n<0);let r2:ByteArray:=cond r1 (ByteArray.mk #[45]) (ByteArray.mk #[]);let r3:Int:=cond r1 (IntKind.u64.wrap (0 - IntKind.u64.wrap n)) (IntKind.u64.wrap n);let r4:ByteArray:=xB r3 (ByteArray.mk #[]);((cq fun x=>none)/\w=1/\(0<=r3/\r3<=1000000000000)/\ByteArray.mk #[48,49,50,51,52,53,54,55,56,57]=QU/\(↑(ByteArray.mk #[]).size:Int)+r3<=2000000000000)/\r2.size+r4.size<=aW/\(r2++r4,()) =(gU n,()));intro r1 r2 r3 r4
 clear_value (hr1:r1=_) (hr2:r2=_) (hr3:r3=_) (hr4:r4=_)
 obtain ⟨k0,k1⟩:=hk;have e1:r1=false:=by rw [hr1];exact decide_eq_false (by omega)
 have e2:r2=ByteArray.mk #[]:=by rw [hr2,e1];rfl
 have e3:r3=n:=by rw [hr3,e1];exact BP k0 (by omega)
 have hz:xB n ⟨#[]⟩=gU n:=by unfold xB gU;rw [if_pos (Bool.or_eq_true_iff.2 (.inr (by decide))),Lib.itoa,if_neg (by omega)];simp [vd]
 have e4:r4=gU n:=by rw [hr4,e3];exact hz
 have hl :(gU n).size<=21:=by show (Lib.itoa n).toArray.size<=21;rw [List.size_toArray];exact Lib.itoa_length_le n (by omega) (by omega)
 have hL :(500:Nat)<=aW:=by decide
 have z0 :(ByteArray.mk #[]).size=0:=rfl;rw [e2,e3,e4,z0];exact ⟨⟨rfl,hw1,⟨k0,k1⟩,rfl,by omega⟩,by omega,congrArg (fun z=>(z,())) (qM (by simp [ByteArray.data_append]))⟩
def AH:FuncId×dR:=(153,ax KE qTw mr Qu)
theorem Iq:aR Tryz.prog KE 153 (ax KE qTw mr Qu):=by
 refine bh (C:=aI [] Tryz.f153) (az (aZ.nil) _) mixed (fn:=Tryz.f153) Tryz.func153 (by kernel_rfl) (by kernel_rfl) (by kernel_rfl) (by kernel_rfl) (by kernel_rfl) (by kernel_rfl) (Λ:=fun x=>find [(Vf,VO)]) ?_ ?_
 ·rintro ⟨n,w,⟨⟩⟩ hw hn
  exact aL.at (by kernel_rfl) (.cons (by kernel_rfl) (XO) .nil)
 ·rintro ⟨n,w,⟨⟩⟩ hw hn
  exact GR n w (hn _ List.mem_cons_self) (hn _ (List.mem_cons_of_mem _ List.mem_cons_self))
theorem DL (n:Int) (hk:C9 n) :(a8 (aI [AH] Tryz.f122) (fun _=>none) Tryz.f122 MY mr (n,())).sat fun z_=>z_ =(Qo (n,())).2:=by refine cast (by kernel_rfl) (?_:C9 n/\Yj 1/\(gU n,()) =(gU n,()));exact ⟨hk,rfl,rfl⟩
def ng:FuncId×dR:=(122,ax KE MY mr Qo)
theorem uR:aR Tryz.prog KE 122 (ax KE MY mr Qo):=by
 refine bh (C:=aI [AH] Tryz.f122) (az (.aP Iq rfl .nil) _) mixed (fn:=Tryz.f122) Tryz.func122 (by kernel_rfl) (by kernel_rfl) (by kernel_rfl) (by kernel_rfl) (by kernel_rfl) (by kernel_rfl) (Λ:=fun _ _=>none) ?_ ?_
 ·exact fun _ _ _ _ _ _ _ _ h=>by cases h
 ·rintro ⟨n,⟨⟩⟩ hw hn
  exact DL n (hn _ List.mem_cons_self)
def Pm (n:Int) (b:Int):Int:=IntKind.u64.wrap (IntKind.u64.wrap (n*10)+IntKind.u64.wrap (IntKind.u8.wrap (b - 48)))
def vn:List UInt8->Int->Bool->Option (Int×Bool)
 | [],n,b=>some (n,b)
 | x::r,n,b=>if decide ((x.toNat:Int)<48)||decide ((x.toNat:Int)>57) then none else vn r (Pm n x.toNat) (b||decide (n>1152921504606846976))
def n9 (s:ByteArray):Bool:=!s.data.toList.isEmpty&&s.data.toList.headD 0==45
def dC (s:ByteArray):ByteArray:=if n9 s then s.extract 1 s.size else s
def WU (neg:Bool) (lo hi:Int):Option (Int×Bool)->Int×Int
 | none=>(0,4)
 | some p=>
  if p.2 ||(decide (p.1>9223372036854775808) ||(p.1==9223372036854775808&&!neg)) then (0,2)
  else
   let v:=if neg then IntKind.i64.wrap (0 - IntKind.i64.wrap p.1) else IntKind.i64.wrap p.1
   if decide (v<lo)||decide (v>hi) then (0,2) else (v,0)
def gB (s:ByteArray) (lo hi:Int):Int×Int:=
 let d:=dC s
 if d.data.toList.isEmpty ||(d.data.toList.headD 0==48&&(n9 s||decide ((d.size:Int)>1))) then (0,4)
 else WU (n9 s) lo hi (vn d.data.toList 0 false)
theorem Bf (x:UInt8) (r:List UInt8) (n:Int) (b:Bool):vn (x::r) n b=if decide ((x.toNat:Int)<48)||decide ((x.toNat:Int)>57) then none else vn r (Pm n x.toNat) (b||decide (n>1152921504606846976)):=rfl
end
section
open Go Go.aa
def ju (c:UInt8):Bool:=decide (48<=c.toNat)&&decide (c.toNat<=57)
def jo:List UInt8->Nat->Nat
 | [],a=>a
 | c::r,a=>jo r (a*10 +(c.toNat - 48))
theorem D8 :∀ (l:List UInt8) (a:Nat),a<=jo l a
 | [],_=>Nat.le_refl _
 | c::r,a=>by
  have:=D8 r (a*10 +(c.toNat - 48))
  unfold jo;omega
theorem Lj (c:UInt8):oo.data.toList.contains c=ju c:=by
 have key :∀ c:Fin 256,oo.data.toList.contains (UInt8.ofNat c.val)=ju (UInt8.ofNat c.val):=by decide +kernel
 have:=key ⟨c.toNat,UInt8.toNat_lt c⟩
 simpa using this
theorem Hz (p:UInt8->Bool) :∀ l:List UInt8,l.dropWhile p=[]↔∀ x∈l,p x=true
 | []=>by simp
 | x::r=>by
  have ih:=Hz p r;rw [List.dropWhile_cons];cases hp:p x
  ·simp [hp]
  ·simp [hp,ih]
theorem Q2 (p:UInt8->Bool) (l:List UInt8) :((l.reverse.dropWhile p).reverse.dropWhile p).isEmpty=l.all p:=by
 apply Bool.eq_iff_iff.2;rw [List.isEmpty_iff,Hz,List.all_eq_true];constructor
 ·intro h;by_cases he:l.reverse.dropWhile p=[]
  ·intro x hx;exact ((Hz p _).1 he) x (List.mem_reverse.2 hx)
  ·have h1:=List.head_dropWhile_not p he;have h2:=h _ (List.mem_reverse.2 (List.head_mem he));rw [h1] at h2;cases h2
 ·intro h x hx;have hx:=List.mem_reverse.1 hx;exact h x (List.mem_reverse.1 ((List.dropWhile_sublist p).mem hx))
theorem aeg (s:ByteArray) :(s.extract 1 s.size).data.toList=s.data.toList.drop 1:=by rw [<-Ui];show ((s.data.toList.take s.size).drop 1)=_;rw [List.take_of_length_le (by rw [Array.length_toList];exact Nat.le_refl _)]
theorem lX (s:ByteArray) :(dC s).data.toList=if n9 s then s.data.toList.drop 1 else s.data.toList:=by
 unfold dC;split
 ·exact aeg s
 ·rfl
theorem Ja (s:ByteArray):Lib.trimPrefix s.data.toList iE.data.toList =(dC s).data.toList:=by
 rw [lX];unfold n9 Lib.trimPrefix Lib.hasPrefix iE
 cases s.data.toList with
 | nil=>rfl
 | cons b t=>
  have:List.isPrefixOf [45] (b::t) =(b==45):=by show ((45:UInt8)==b&&List.isPrefixOf [] t)=_;rw [BEq.comm];simp [List.isPrefixOf]
  show (if List.isPrefixOf [45] (b::t) then _ else _)=_;rw [this];simp
theorem xW (s:ByteArray):s.size=s.data.toList.length:=by rw [Array.length_toList];rfl
theorem vx (s:ByteArray):mP s =(!(dC s).data.toList.isEmpty&&!((dC s).data.toList.headD 0==48&&(n9 s||decide (((dC s).size:Int)>1)))&&(dC s).data.toList.all ju):=by
 unfold mP;rw [Ja,Lib.toList_data]
 have ht :(Lib.trimS (dC s).data.toList oo.data.toList).isEmpty =(dC s).data.toList.all ju:=by unfold Lib.trimS Lib.trimLeftS Lib.trimRightS;have :(fun x=>oo.data.toList.contains x)=ju:=funext Lj;rw [this,Q2]
 simp only [ht,xW];rw [lX]
 cases hn:n9 s with
 | true=>
  simp only [if_true,Bool.true_or,Bool.and_true]
  have :(s.data.toList==[48])=false:=by
   unfold n9 at hn
   cases hs:s.data.toList with
   | nil=>rfl
   | cons b t=>
    rw [hs] at hn;have hb:b=45:=by simpa using hn
    subst hb;simp
  rw [this];cases (s.data.toList.drop 1).isEmpty <;> simp
 | false=>
  simp only [Bool.false_or,Bool.false_eq_true,if_false]
  cases hs:s.data.toList with
  | nil=>rfl
  | cons b t=>
   cases t with
   | nil=>simp
   | cons c r=>
    have h1:decide (((b::c::r).length:Int)>1)=true:=decide_eq_true (by simp only [List.length_cons];omega);have h2 :(b::c::r==[(48:UInt8)])=false:=by simp
    rw [h1,h2];simp
theorem Bg :∀ (l:List UInt8) (n:Int) (b:Bool),l.all ju=false->vn l n b=none
 | [],_,_,h=>by cases h
 | c::r,n,b,h=>by
  rw [Bf];by_cases hc:ju c=true
  ·have h':r.all ju=false:=by rw [List.all_cons,hc] at h;exact h
   unfold ju at hc;rw [if_neg (by simp at hc ⊢;omega)];exact Bg r _ _ h'
  ·unfold ju at hc;rw [if_pos (by simp at hc ⊢;omega)]
def aaq (n:Int) (b:Bool) (a:Nat):Prop:=(b=false/\n=a/\a<=11529215046068469769)\/(b=true/\a>9223372036854775808)
theorem Bh :∀ (l:List UInt8) (n:Int) (b:Bool) (a:Nat),l.all ju=true->aaq n b a->∃ n' b',vn l n b=some (n',b')/\aaq n' b' (jo l a)
 | [],n,b,a,_,h=>⟨n,b,rfl,h⟩
 | c::r,n,b,a,h,hi=>by
  rw [List.all_cons,Bool.and_eq_true] at h;have hc:=h.1;unfold ju at hc;simp only [Bool.and_eq_true,decide_eq_true_eq] at hc;rw [Bf,if_neg (by simp;omega)];refine Bh r _ _ (a*10 +(c.toNat - 48)) h.2 ?_;rcases hi with ⟨rfl,rfl,h3⟩ |⟨rfl,h3⟩
  ·by_cases hb:a>1152921504606846976
   ·refine .inr ⟨by simp;omega,by omega⟩
   ·refine .inl ⟨by simp;omega,?_,by omega⟩;unfold Pm
    have e1:IntKind.u8.wrap ((c.toNat:Int) - 48) =(c.toNat:Int) - 48:=by simp only [IntKind.wrap,IntKind.bits,IntKind.signed];simp;omega
    have e2:IntKind.u64.wrap ((a:Int)*10) =(a:Int)*10:=BP (by omega) (by omega);have e3:IntKind.u64.wrap ((c.toNat:Int) - 48) =(c.toNat:Int) - 48:=BP (by omega) (by omega);rw [e1,e2,e3,BP (by omega) (by omega)];omega
  ·exact .inr ⟨by simp,by omega⟩
theorem G6 :∀ (l:List UInt8) (a:Nat),l.all ju=true->a<=18446744073709551615->
  (Lib.parseUintM 18446744073709551615 a l = .ok (jo l a)/\jo l a<=18446744073709551615)\/(Lib.parseUintM 18446744073709551615 a l = .range/\jo l a>18446744073709551615)
 | [],a,_,h=> .inl ⟨rfl,h⟩
 | c::r,a,h,ha=>by
  rw [List.all_cons,Bool.and_eq_true] at h;have hc:=h.1;unfold ju at hc;simp only [Bool.and_eq_true,decide_eq_true_eq] at hc;unfold Lib.parseUintM;rw [if_pos hc];have hv:=D8 r (a*10 +(c.toNat - 48));split
  ·exact .inr ⟨rfl,by unfold jo;omega⟩
  ·split
   ·exact .inr ⟨rfl,by unfold jo;omega⟩
   ·exact G6 r _ h.2 (by omega)
theorem SP {s:ByteArray} {lo hi:Int} (h:mP s=false):gB s lo hi =(0,4):=by
 rw [vx] at h;unfold gB;simp only [];split
 ·rfl
 ·rename_i h1;have h1 :((dC s).data.toList.isEmpty ||((dC s).data.toList.headD 0==48&&(n9 s||decide (((dC s).size:Int)>1))))=false:=by simpa using h1
  rw [Bool.or_eq_false_iff] at h1;rw [h1.1,h1.2] at h;rw [Bg _ _ _ (by simpa using h)];rfl
theorem FX {s:ByteArray} {lo hi:Int} (h:mP s=true) :(dC s).data.toList≠ []/\(dC s).data.toList.all ju=true/\gB s lo hi=WU (n9 s) lo hi (vn (dC s).data.toList 0 false):=by
 rw [vx,Bool.and_eq_true,Bool.and_eq_true] at h;obtain ⟨⟨h1,h2⟩,h3⟩:=h;refine ⟨fun e=>(by rw [e] at h1;cases h1),h3,?_⟩;unfold gB;simp only [];rw [if_neg];have h1 :(dC s).data.toList.isEmpty=false:=by simpa using h1
 rw [Bool.not_eq_true'] at h2;rw [h1,h2];decide
theorem ui {s:ByteArray} (h1 :(dC s).data.toList≠ []) (h2 :(dC s).data.toList.all ju=true) :
  Lib.parseIntB 64 s.data.toList =(if (if n9 s then jo (dC s).data.toList 0>9223372036854775808 else jo (dC s).data.toList 0>=9223372036854775808) then .range else .ok (if n9 s then -(jo (dC s).data.toList 0:Int) else jo (dC s).data.toList 0)):=by
 have hl:=lX s;generalize (dC s).data.toList=d at *;unfold n9 at *;generalize s.data.toList=l at *
 cases l with
 | nil=>exact absurd hl h1
 | cons c r=>
  have hv:=G6 d 0 h2 (by decide)
  have hd:Lib.parseUintB 64 (if c.toNat=43\/c.toNat=45 then r else c::r)=Lib.parseUintM 18446744073709551615 0 d:=by
   have :(if c.toNat=43\/c.toNat=45 then r else c::r)=d:=by
    rw [hl];by_cases h:c=45
    ·subst h;rfl
    ·have hb :(c==45)=false:=by simpa using h
     have hn :(!(c::r).isEmpty&&(c::r).headD 0==45)=false:=by simpa using hb
     rw [hn] at hl ⊢;simp only [if_false,Bool.false_eq_true] at hl ⊢;rw [if_neg];rw [hl,List.all_cons,Bool.and_eq_true] at h2
     have:=h2.1
     unfold ju at this;simp only [Bool.and_eq_true,decide_eq_true_eq] at this;omega
   rw [this];unfold Lib.parseUintB;rw [if_neg h1]
  unfold Lib.parseIntB;simp only [];rw [hd]
  have hneg :(c.toNat=45)↔(!(c::r).isEmpty&&(c::r).headD 0==45)=true:=by simp only [List.isEmpty_cons,Bool.not_false,Bool.true_and,List.headD_cons,beq_iff_eq];rw [<-UInt8.toNat_inj];exact Iff.rfl
  cases hb :(!(c::r).isEmpty&&(c::r).headD 0==45) with
  | true=>
   have hc:c.toNat=45:=hneg.2 hb;rcases hv with ⟨e,hle⟩ |⟨e,hgt⟩
   ·rw [e];simp only [hc,not_true,false_and,if_false,true_and,if_true]
   ·rw [e];simp only [if_true];rw [if_pos (by omega)]
  | false=>
   have hc :¬ c.toNat=45:=fun h=>by rw [hneg.1 h] at hb;cases hb
   rcases hv with ⟨e,hle⟩ |⟨e,hgt⟩
   ·rw [e];simp only [hc,not_false_iff,true_and,false_and,if_false,Bool.false_eq_true]
   ·rw [e];simp only [Bool.false_eq_true,if_false];rw [if_pos (by omega)]
theorem fj (s:ByteArray) (lo hi:Int):gB s lo hi=dX s lo hi:=by
 unfold dX
 cases hb:mP s with
 | false=>exact SP hb
 | true=>
  obtain ⟨h1,h2,h3⟩:=FX (lo:=lo) (hi:=hi) hb;rw [h3,ui h1 h2];obtain ⟨n,b,hn,hi'⟩:=Bh (dC s).data.toList 0 false 0 h2 (.inl ⟨rfl,rfl,by omega⟩);rw [hn];generalize jo (dC s).data.toList 0=V at *;unfold WU;simp only [if_true];rcases hi' with ⟨rfl,rfl,hV⟩ |⟨rfl,hV⟩
  ·cases n9 s with
   | true=>
    by_cases hg:V>9223372036854775808
    ·rw [if_pos (by simp;omega)];simp [hg]
    ·rw [if_neg (by simp;omega)];simp only [if_true,hg,if_false]
     have e1:IntKind.i64.wrap (0 - IntKind.i64.wrap (V:Int)) = -(V:Int):=by
      by_cases h63:V=9223372036854775808
      ·subst h63;decide
      ·rw [a7 (n:=(V:Int)) (by omega) (by omega),a7 (by omega) (by omega)];omega
     rw [e1];by_cases hr:-(V:Int)<lo\/hi < -(V:Int)
     ·rw [if_pos (by simpa using hr),if_pos hr]
     ·rw [if_neg (by simpa using hr),if_neg hr]
   | false=>
    by_cases hg:V>=9223372036854775808
    ·rw [if_pos (by simp;omega)];simp [hg]
    ·rw [if_neg (by simp;omega)];simp only [Bool.false_eq_true,if_false,hg];have e1:IntKind.i64.wrap (V:Int) =(V:Int):=a7 (by omega) (by omega);rw [e1];by_cases hr :(V:Int)<lo\/hi <(V:Int)
     ·rw [if_pos (by simpa using hr),if_pos hr]
     ·rw [if_neg (by simpa using hr),if_neg hr]
  ·rw [if_pos (by simp)];cases n9 s
   ·simp only [Bool.false_eq_true,if_false];rw [if_pos (by omega)]
   ·simp only [if_true];rw [if_pos (by omega)]
end
end Go.Proofs.YtjcbhomccohklaaGreatDoor
namespace Go.aa
open Go.RowKit
variable {P:Program}
end Go.aa
namespace Go.Proofs.YtjcbhomccohklaaGreatDoor
section
open Go Go.aa
def oR (b:ByteArray):Int×Int:=dX b 0 1000000
theorem Lh {n:Int} (h0:0<=n) (h1:n<=1000000) :(gU n).size<=21:=by show (Lib.itoa n).toArray.size<=21;rw [List.size_toArray];exact Lib.itoa_length_le n (by omega) (by omega)
theorem yr (c:UInt8) :∀ (l:List UInt8) (a:Nat),jo (l++[c]) a=jo l a*10 +(c.toNat - 48)
 | [],a=>rfl
 | x::r,a=>yr c r _
theorem om {d:Nat} (h:d<10) :(UInt8.ofNat (48+d)).toNat=48+d:=by rw [UInt8.toNat_ofNat'];omega
theorem EG {n:Nat} (h :¬ n<10):Lib.decDigits n=Lib.decDigits (n / 10)++[UInt8.ofNat (48+n % 10)]:=by
 conv=>lhs;rw [Lib.decDigits]
 rw [dif_neg h]
theorem Jq {n:Nat} (h:n<10):Lib.decDigits n=[UInt8.ofNat (48+n)]:=by rw [Lib.decDigits,dif_pos h]
theorem D9 :∀ (k n:Nat),n<k->jo (Lib.decDigits n) 0=n/\(Lib.decDigits n).all ju=true/\Lib.decDigits n≠ []/\((Lib.decDigits n).headD 0=48->(Lib.decDigits n).length=1)
 | 0,n,h=>absurd h (Nat.not_lt_zero _)
 | k+1,n,h=>by
  by_cases h10:n<10
  ·rw [Jq h10];refine ⟨?_,?_,by simp,fun _=>rfl⟩
   ·show 0*10 +((UInt8.ofNat (48+n)).toNat - 48)=n;rw [om h10];omega
   ·simp [ju,om h10];omega
  ·obtain ⟨i1,i2,i3,i4⟩:=D9 k (n / 10) (by omega);have hm:n % 10<10:=by omega
   rw [EG h10];refine ⟨?_,?_,by simp,fun hh=>?_⟩
   ·rw [yr,i1,om hm];omega
   ·rw [List.all_append,i2];simp [ju,om hm];omega
   ·exfalso
    cases hd:Lib.decDigits (n / 10) with
    | nil=>exact i3 hd
    | cons x t=>
     rw [hd] at hh i4 i1;have hx:x=48:=hh;have hl:=i4 hx
     cases t with
     | cons=>simp at hl
     | nil=>subst hx;have :(0:Nat)=n / 10:=i1;omega
theorem G7 {c:UInt8} {r:List UInt8} (h:ju c=true) (h0:c≠48):1<=jo (c::r) 0:=by
 unfold ju at h;simp only [Bool.and_eq_true,decide_eq_true_eq] at h
 have:c.toNat≠48:=fun e=>h0 (UInt8.toNat_inj.1 e)
 have:=D8 r (0*10 +(c.toNat - 48))
 unfold jo;omega
theorem Jr :∀ (k:Nat) (l:List UInt8),l.length<=k->l≠ []->l.all ju=true->(l.headD 0=48->l.length=1)->Lib.decDigits (jo l 0)=l
 | 0,l,hk,h1,_,_=>absurd (List.length_eq_zero_iff.1 (Nat.le_zero.1 hk)) h1
 | k+1,l,hk,h1,h2,h3=>by
  obtain ⟨l',c,rfl⟩ :∃ l' c,l=l'++[c]:=⟨l.dropLast,l.getLast h1,(List.dropLast_concat_getLast h1).symm⟩;rw [List.all_append,Bool.and_eq_true] at h2;have hc:=h2.2;simp only [List.all_cons,List.all_nil,Bool.and_true] at hc;have hc':=hc;unfold ju at hc';simp only [Bool.and_eq_true,decide_eq_true_eq] at hc'
  have hcc:UInt8.ofNat (48 +(c.toNat - 48))=c:=by apply UInt8.toNat_inj.1;rw [om (by omega)];omega
  cases l' with
  | nil=>
   show Lib.decDigits (0*10 +(c.toNat - 48))=[c];rw [Nat.zero_mul,Nat.zero_add,Jq (by omega),hcc]
  | cons x t=>
   have hx:x≠48:=fun e=>by
    have:=h3 (by rw [e];rfl)
    simp at this
   have hx2:=h2.1;rw [List.all_cons,Bool.and_eq_true] at hx2;have hp:=G7 (r:=t) hx2.1 hx;rw [yr];have ih:=Jr k (x::t) (by simp at hk ⊢;omega) (by simp) h2.1 (fun e=>absurd e hx);rw [EG (by omega)];have e1 :(jo (x::t) 0*10 +(c.toNat - 48)) / 10=jo (x::t) 0:=by omega
   have e2 :(jo (x::t) 0*10 +(c.toNat - 48)) % 10=c.toNat - 48:=by omega
   rw [e1,e2,ih,hcc]
theorem Se {b:UInt8} (h:ju b=true):b≠45/\b≠32:=by constructor <;>(rintro rfl;exact absurd h (by decide))
theorem tg {n:Int} (h0:0<=n) :(gU n).data.toList=Lib.decDigits n.toNat:=by show (Lib.itoa n).toArray.toList=_;unfold Lib.itoa;rw [if_neg (by omega)]
theorem Pl {n:Int} (h0:0<=n):n9 (gU n)=false:=by
 unfold n9;rw [tg h0];obtain ⟨_,h2,h3,_⟩:=D9 _ n.toNat (Nat.lt_succ_self _)
 cases hd:Lib.decDigits n.toNat with
 | nil=>exact absurd hd h3
 | cons x t=>rw [hd,List.all_cons,Bool.and_eq_true] at h2;simpa using (Se h2.1).1
theorem SQ {n:Int} (h0:0<=n) (h1:n<=1000000):oR (gU n) =(n,0):=by
 obtain ⟨v1,v2,v3,v4⟩:=D9 _ n.toNat (Nat.lt_succ_self _);have hn:=Pl h0
 have hl :(dC (gU n)).data.toList=Lib.decDigits n.toNat:=by rw [lX,hn,if_neg (by decide),tg h0]
 have hb:mP (gU n)=true:=by
  rw [vx,hl,hn,v2,xW,hl,Bool.false_or];have h1 :(Lib.decDigits n.toNat).isEmpty=false:=by simpa using v3
  rw [h1];cases h48 :((Lib.decDigits n.toNat).headD 0==48)
  ·rfl
  ·rw [v4 (eq_of_beq h48)];rfl
 unfold oR dX;rw [if_pos hb,ui (by rw [hl];exact v3) (by rw [hl];exact v2),hl,hn,v1];simp only [Bool.false_eq_true,if_false];rw [if_neg (by omega)];simp only [];rw [if_neg (by omega)];have :((n.toNat:Nat):Int)=n:=by omega
 rw [this]
theorem Pn {b:ByteArray} (h :(oR b).2=0):b=gU (oR b).1/\0<=(oR b).1/\(oR b).1<=1000000:=by
 unfold oR dX at *
 cases hb:mP b with
 | false=>rw [hb] at h;exact absurd h (by simp)
 | true=>
  rw [hb] at h;obtain ⟨k1,k2,_⟩:=FX (lo:=0) (hi:=0) hb;rw [ui k1 k2] at h ⊢;rw [vx,Bool.and_eq_true,Bool.and_eq_true] at hb;have hz:=hb.1.2;generalize hd :(dC b).data.toList=d at *;simp only [if_true] at h ⊢;split at h
  ·rename_i v hv;split at h
   ·exact absurd h (by simp)
   ·rename_i hr;rw [if_neg hr];show b=gU v/\0<=v/\v<=1000000;have hr1:0<=v/\v<=1000000:=by omega
    cases hn:n9 b with
    | true=>
     exfalso;rw [hn] at hv hz;simp only [if_true] at hv;by_cases hV:jo d 0>9223372036854775808
     ·rw [if_pos hV] at hv;cases hv
     ·rw [if_neg hV] at hv
      injection hv with hv
      cases d with
      | nil=>exact k1 rfl
      | cons x t=>
       rw [List.all_cons,Bool.and_eq_true] at k2
       have hx:x≠48:=by
        rintro rfl
        simp at hz
       have:=G7 (r:=t) k2.1 hx
       omega
    | false=>
     rw [hn] at hv hz;simp only [Bool.false_eq_true,if_false] at hv;by_cases hV:jo d 0>=9223372036854775808
     ·rw [if_pos hV] at hv;cases hv
     ·rw [if_neg hV] at hv
      injection hv with hv
      refine ⟨?_,hr1⟩;apply qM;have hbl:b.data.toList=d:=by rw [<-hd,lX,hn];rfl
      rw [tg hr1.1,hbl];have hv2:v.toNat=jo d 0:=by omega
      rw [hv2,Jr d.length d (Nat.le_refl _) k1 k2];intro h48;have hsz :((dC b).size:Int)=d.length:=by rw [xW,hd]
      rw [h48,hsz] at hz
      cases d with
      | nil=>exact absurd rfl k1
      | cons x t=>
       cases t with
       | nil=>rfl
       | cons y t=>simp at hz;omega
  ·exact absurd h (by simp)
def NJ:ByteArray:=⟨#[46]⟩
def dp (n:Int):ByteArray:=if n==0 then NJ else gU n
def cd (s:ByteArray):Int×Bool:=if s.toList==NJ.toList then (0,true) else ((dX s 1 11).1,(dX s 1 11).2==0)
def D7 (s:ByteArray):Nat->Int->Int
 | 0,_=> -1
 | k+1,n=>if (dp n).toList==s.toList then n else D7 s k (n+1)
def gn (s:ByteArray):Int:=D7 s 12 0
theorem Ie {s:ByteArray} (h :(dX s 1 11).2=0):oR s =((dX s 1 11).1,0)/\1<=(dX s 1 11).1/\(dX s 1 11).1<=11:=by
 unfold oR dX at *
 cases hb:mP s with
 | false=>rw [hb] at h;exact absurd h (by simp)
 | true=>
  rw [hb] at h;simp only [if_true] at h ⊢
  cases hp:Lib.parseIntB 64 s.data.toList with
  | ok v=>
   rw [hp] at h;simp only at h ⊢;by_cases hv:v<1\/11<v
   ·rw [if_pos hv] at h;exact absurd h (by simp)
   ·rw [if_neg hv];rw [if_neg (by omega)];exact ⟨rfl,by show 1<=v;omega,by show v<=11;omega⟩
  | _=>rw [hp] at h;exact absurd h (by simp)
theorem SR {s:ByteArray} {n:Int} (h:oR s =(n,0)) (h1:1<=n) (h2:n<=11):dX s 1 11 =(n,0):=by
 unfold oR dX at *
 cases hb:mP s with
 | false=>rw [hb] at h;exact absurd h (by simp)
 | true=>
  rw [hb] at h;simp only [if_true] at h ⊢
  cases hp:Lib.parseIntB 64 s.data.toList with
  | ok v=>
   rw [hp] at h;simp only at h ⊢;by_cases hv:v<0\/1000000<v
   ·rw [if_pos hv] at h;simp at h
   ·rw [if_neg hv] at h;have hv:v=n:=by simpa using h
    subst hv;rw [if_neg (by omega)]
  | _=>rw [hp] at h;simp at h
theorem Z0 :∀ n:Fin 12,gn (dp (n.val:Int)) =(n.val:Int):=by
 intro n;have key :((List.range 12).all fun k=>gn (dp (k:Int)) ==(k:Int))=true:=by kernel_rfl
 exact eq_of_beq (List.all_eq_true.1 key n.val (List.mem_range.2 n.isLt))
theorem KJ {n:Int} (h0:0<=n) (h1:n<=11):gn (dp n)=n:=by
 have:=Z0 ⟨n.toNat,by omega⟩
 simp only at this;rw [show ((n.toNat:Nat):Int)=n by omega] at this;exact this
theorem BM {s:ByteArray} :∀ (k:Nat) (n:Int),0<=n->D7 s k n = -1\/(n<=D7 s k n/\D7 s k n<n+k/\s=dp (D7 s k n))
 | 0,_,_=> .inl rfl
 | k+1,n,h0=>by
  unfold D7;by_cases h :((dp n).toList==s.toList)=true
  ·rw [if_pos h];exact .inr ⟨Int.le_refl _,by omega,(qM (dB.1 h)).symm⟩
  ·rw [if_neg h];rcases BM k (n+1) (by omega) with h |⟨h1,h2,h3⟩
   ·exact .inl h
   ·exact .inr ⟨by omega,by omega,h3⟩
theorem KL (s:ByteArray):gn s=if (cd s).2 then (cd s).1 else -1:=by
 unfold cd;by_cases hd :(s.toList==NJ.toList)=true
 ·rw [if_pos hd];have e:s=NJ:=qM (dB.1 hd);rw [e];exact KJ (n:=0) (Int.le_refl _) (by decide)
 ·rw [if_neg hd];simp only;by_cases hn :(dX s 1 11).2=0
  ·obtain ⟨h1,h2,h3⟩:=Ie hn;have hb:=(Pn (b:=s) (by rw [h1])).1;rw [h1] at hb;simp only at hb
   have e:s=dp (dX s 1 11).1:=by unfold dp;rw [if_neg (by simp;omega)];exact hb
   rw [if_pos (by simpa using hn)];generalize (dX s 1 11).1=n at *;rw [e];exact KJ (by omega) h3
  ·rw [if_neg (by simpa using hn)];rcases BM (s:=s) 12 0 (Int.le_refl _) with h |⟨h1,h2,h3⟩
   ·exact h
   ·exfalso;change 0<=gn s at h1;change gn s<0+12 at h2;change s=dp (gn s) at h3;generalize gn s=n at *;by_cases h0:n=0
    ·subst h0;apply hd;rw [h3];exact beq_self_eq_true _
    ·apply hn;have e:dp n=gU n:=by unfold dp;rw [if_neg (by simpa using h0)]
     rw [h3,e,SR (SQ h1 (by omega)) (by omega) (by omega)]
end
section
open Go Go.aa
attribute [local irreducible] Go.aa.DT.sat Go.aa.a8
def ke (p:Int->Bool):List Int->Int->Option Int
 | [],_=>none
 | x::r,i=>if p x then some i else ke p r (i+1)
def aa8:Option Int->Sum (Int×Unit) Unit
 | some k=> .inl (k,())
 | none=> .inr ()
def sr (o:Option Int):Int:=o.getD (-1)
theorem wI {p:Int->Bool} :∀ {l:List Int} {i:Int},(ke p l i).isSome=l.any p
 | [],_=>rfl
 | x::r,i=>by
  simp only [ke,List.any_cons]
  cases hp:p x with
  | true=>simp
  | false=>simpa using wI
theorem E3 {p:Int->Bool} :∀ {l:List Int} {i k:Int},ke p l i=some k->i<=k
 | [],_,_,h=>by simp [ke] at h
 | x::r,i,k,h=>by
  simp only [ke] at h;split at h
  ·cases h;exact Int.le_refl _
  ·have:=E3 h;omega
theorem aY {α:Type} {l:List α} {i:Int} (h0:0<=i) (h:i<l.length) (d:α):l.drop i.toNat=l.getD i.toNat d::l.drop (i+1).toNat:=by
 have h1:i.toNat<l.length:=by omega
 rw [List.drop_eq_getElem_cons h1,show (i+1).toNat=i.toNat+1 by omega,List.getD_eq_getElem?_getD,List.getElem?_eq_getElem h1];rfl
theorem pV {α:Type} {l:List α} {i:Int} (h0:0<=i) (h:i<l.length) (d:α):l.take (i+1).toNat=l.take i.toNat++[l.getD i.toNat d]:=by
 have h1:i.toNat<l.length:=by omega
 have:l.getD i.toNat d=l[i.toNat]:=by rw [List.getD_eq_getElem?_getD,List.getElem?_eq_getElem h1];rfl
 rw [this,show (i+1).toNat=i.toNat+1 by omega,List.take_succ_eq_append_getElem h1]
theorem aN {α:Type} {l:List α} {i:Int} (h :(l.length:Int)<=i):l.drop i.toNat=[]:=List.drop_of_length_le (by omega)
theorem bE {n:Int} (h1:-9223372036854775808<=n) (h2:n<=9223372036854775807):IntKind.i64.wrap n=n:=a7 h1 h2
end
section
open Go Go.aa
def pb (r:aj) (s:ByteArray):Option ab:=(He r.Wide r.NoBall s.data.toList fk).map (sU r.Wide r.NoBall)
def jj (r:aj):List ByteArray->Option (List ab)
 | []=>some []
 | s::l=>match pb r s with
  | none=>none
  | some x=>(jj r l).map (x::·)
def eK (x:ab):Int:=if x.kind==0 then 1 else 0
def cK:List ab->Int
 | []=>0
 | x::l=>eK x+cK l
def yu (r:aj) (x:aa.aH):Bool:=decide (x.Bowler<1)||decide (x.Bowler>r.Side)
def vc (r:aj) (p:Option (Int×Int)) (g:Int) (x:aa.aH):Option Int:=match p with
 | none=>if x.Over==0 then some g else none
 | some q=>if x.Over==q.1&&(x.Bowler != q.2&&decide (g<r.Balls)) then some g else if x.Over==W (q.1+1)&&g==r.Balls then some 0 else none
def pZ (r:aj):List aa.aH->Option (Int×Int)->Int->List (List ab)->Sum Int (List (List ab))
 | [],_,_,o=> .inr o
 | x::l,p,g,o=>if yu r x then .inl 2 else match jj r x.Symbols with
  | none=> .inl 4
  | some ys=>if ys.isEmpty then .inl 4 else match vc r p g x with
   | none=> .inl 8
   | some g1=>if decide (g1+cK ys>r.Balls) then .inl 9 else pZ r l (some (x.Over,x.Bowler)) (g1+cK ys) (o++[ys])
def zL (r:aj) (s:ByteArray):Int:=match pb r s with
 | some x=>eK x
 | none=>0
def rP (r:aj):List ByteArray->Int
 | []=>0
 | s::l=>zL r s+rP r l
def mh (r:aj) (ov:Int):List aa.aH->Int
 | []=>0
 | x::l=>(if x.Over==ov then rP r x.Symbols else 0)+mh r ov l
def FC (r:aj) (pre:List aa.aH) (x:aa.aH):Int:=if decide (mh r x.Over (pre++[x])>r.Balls) then 9 else 0
def Iw (r:aj) (pre:List aa.aH) (x:aa.aH):Int:=match pre.getLast? with
 | none=>if x.Over != 0 then 8 else FC r pre x
 | some y=>if mh r y.Over pre==r.Balls then (if x.Over != W (y.Over+1) then 8 else FC r pre x) else if x.Bowler==y.Bowler then 8 else if x.Over != y.Over then 8 else FC r pre x
def lz (r:aj) (pre:List aa.aH) (x:aa.aH):Int:=
 if yu r x then 2 else if x.Symbols.isEmpty then 4 else if x.Symbols.any (fun s=>(pb r s).isNone) then 4 else Iw r pre x
def vw (r:aj):List aa.aH->List aa.aH->Int
 | _,[]=>0
 | pre,x::l=>if lz r pre x != 0 then lz r pre x else vw r (pre++[x]) l
def Lt (z:Sum Int (List (List ab))):Int:=match z with
 | .inl e=>e
 | .inr _=>0
theorem um (r:aj) :∀ l:List ByteArray,(jj r l).isNone=l.any fun s=>(pb r s).isNone
 | []=>rfl
 | s::l=>by
  have ih:=um r l;rw [List.any_cons,<-ih];show (match pb r s with|none=>none|some x=>(jj r l).map (x::·)).isNone=_;generalize jj r l=t
  cases pb r s with
  | none=>rfl
  | some x=>cases t <;> rfl
theorem uo {r:aj} :∀ {l:List ByteArray} {ys:List ab},jj r l=some ys->ys.isEmpty=l.isEmpty/\rP r l=cK ys
 | [],ys,h=>by cases h;exact ⟨rfl,rfl⟩
 | s::l,ys,h=>by
  unfold jj at h
  cases hs:pb r s with
  | none=>rw [hs] at h;cases h
  | some x=>
   rw [hs] at h
   cases hl:jj r l with
   | none=>rw [hl] at h;cases h
   | some zs=>rw [hl] at h;have h:some (x::zs)=some ys:=h;cases h;refine ⟨rfl,?_⟩;show zL r s+rP r l=eK x+cK zs;unfold zL;rw [hs,(uo hl).2]
theorem oN (r:aj) (ov:Int) (x:aa.aH) :∀ l:List aa.aH,mh r ov (l++[x])=mh r ov l+if x.Over==ov then rP r x.Symbols else 0
 | []=>by show _+0=0+_;omega
 | z::l=>by show _+mh r ov (l++[x])=_+mh r ov l+_;rw [oN r ov x l];omega
theorem AK (r:aj) (ov:Int) :∀ l:List aa.aH,(∀ z∈l,z.Over<ov)->mh r ov l=0
 | [],_=>rfl
 | z::l,h=>by have h1:=h z List.mem_cons_self;unfold mh;rw [AK r ov l fun y hy=>h y (List.mem_cons_of_mem _ hy),if_neg (by simp;omega)];rfl
def adi (r:aj) (pre:List aa.aH) (p:Option (Int×Int)) (g:Int):Prop:=
 (pre=[]/\p=none/\g=0)\/∃ y,pre.getLast?=some y/\p=some (y.Over,y.Bowler)/\g=mh r y.Over pre/\(∀ z∈pre,z.Over<=y.Over)/\0<=y.Over/\y.Over<=pre.length/\g<=r.Balls
theorem Fs {α:Type} (l:List α) (x:α) :(l++[x]).getLast?=some x:=by simp
theorem ug {r:aj} :∀ (l pre:List aa.aH) (p:Option (Int×Int)) (g:Int) (o:List (List ab)),adi r pre p g->pre.length+l.length<=4000->Lt (pZ r l p g o)=vw r pre l
 | [],_,_,_,_,_,_=>rfl
 | x::l,pre,p,g,o,hi,hl=>by
  have hl' :(pre++[x]).length+l.length<=4000:=by simp at hl ⊢;omega
  unfold pZ vw lz
  cases hw:yu r x with
  | true=>rfl
  | false=>
   rw [if_neg Bool.false_ne_true,if_neg Bool.false_ne_true]
   cases hs:jj r x.Symbols with
   | none=>
    have h1:=um r x.Symbols;rw [hs] at h1;rw [<-h1];cases x.Symbols.isEmpty <;> rfl
   | some ys=>
    obtain ⟨e1,e2⟩:=uo hs;have h1:=um r x.Symbols;rw [hs] at h1;rw [<-h1,<-e1]
    cases he:ys.isEmpty with
    | true=>simp only [he,if_true];rfl
    | false=>
     simp only [he,Bool.false_eq_true,if_false];have hbr :(some ys:Option (List ab)).isNone=false:=rfl;rw [hbr];simp only [Bool.false_eq_true,if_false]
     have fin :∀ g1:Int,g1+cK ys=mh r x.Over (pre++[x])->(∀ z∈pre,z.Over<=x.Over)->0<=x.Over->x.Over<=pre.length+1->
       Lt (if decide (g1+cK ys>r.Balls) then .inl 9 else pZ r l (some (x.Over,x.Bowler)) (g1+cK ys) (o++[ys]))=if FC r pre x != 0 then FC r pre x else vw r (pre++[x]) l:=fun g1 hg hz h0 hx=>by
      unfold FC;rw [<-hg];by_cases hb:g1+cK ys>r.Balls
      ·simp only [decide_eq_true hb,if_true];rfl
      ·simp only [decide_eq_false hb,Bool.false_eq_true,if_false];refine ug l (pre++[x]) _ _ _ (.inr ⟨x,Fs _ _,rfl,hg,fun z hz'=>?_,h0,?_,by omega⟩) hl'
       ·rcases List.mem_append.1 hz' with h|h
        ·exact hz z h
        ·rw [List.mem_singleton.1 h];exact Int.le_refl _
       ·simp;omega
     rcases hi with ⟨rfl,rfl,rfl⟩ |⟨y,hy,rfl,rfl,hz,h0,hn,hb⟩
     ·unfold vc Iw;simp only [List.getLast?_nil];by_cases hx:x.Over=0
      ·rw [if_pos (by simpa using hx)];have hne :(x.Over != 0)=false:=by simp [hx]
       rw [hne];simp only [Bool.false_eq_true,if_false];refine fin 0 ?_ (fun z hz=>by cases hz) (by omega) (by simp;omega);rw [oN];show 0+cK ys=0+_;rw [if_pos (by simp),e2]
      ·rw [if_neg (by simpa using hx)];have hne :(x.Over != 0)=true:=by simpa using hx
       rw [hne];rfl
     ·unfold vc Iw;rw [hy];simp only;have hlen :(pre.length:Int)<=4000:=by omega
      have ew:W (y.Over+1)=y.Over+1:=bE (by omega) (by omega);rw [ew];generalize hg:mh r y.Over pre=g at *;by_cases hB:g=r.Balls
      ·have e3 :(x.Over==y.Over&&(x.Bowler != y.Bowler&&decide (g<r.Balls)))=false:=by rw [decide_eq_false (by omega)];simp
       have e4 :(g==r.Balls)=true:=by simpa using hB
       rw [e3,e4];simp only [Bool.false_eq_true,if_false,if_true,Bool.and_true];by_cases hx:x.Over=y.Over+1
       ·have e5 :(x.Over==y.Over+1)=true:=by simpa using hx
        have e6 :(x.Over != y.Over+1)=false:=by simp [hx]
        rw [e5,e6];simp only [if_true,Bool.false_eq_true,if_false];refine fin 0 ?_ (fun z h=>by have:=hz z h;omega) (by omega) (by omega);rw [oN,if_pos (by simp),AK r x.Over pre (fun z h=>by have:=hz z h;omega),e2]
       ·have e5 :(x.Over==y.Over+1)=false:=by simpa using hx
        have e6 :(x.Over != y.Over+1)=true:=by simpa using hx
        rw [e5,e6];rfl
      ·have e4 :(g==r.Balls)=false:=by simpa using hB
       rw [e4,decide_eq_true (show g<r.Balls by omega)];simp only [Bool.and_true,Bool.and_false,Bool.false_eq_true,if_false];by_cases hw2:x.Bowler=y.Bowler
       ·have e5 :(x.Bowler != y.Bowler)=false:=by simp [hw2]
        have e6 :(x.Bowler==y.Bowler)=true:=by simpa using hw2
        rw [e5,e6];simp only [Bool.and_false,Bool.false_eq_true,if_false,if_true];rfl
       ·have e5 :(x.Bowler != y.Bowler)=true:=by simpa using hw2
        have e6 :(x.Bowler==y.Bowler)=false:=by simpa using hw2
        rw [e5,e6];simp only [Bool.and_true,Bool.false_eq_true,if_false];by_cases hx:x.Over=y.Over
        ·have e7 :(x.Over==y.Over)=true:=by simpa using hx
         have e8 :(x.Over != y.Over)=false:=by simp [hx]
         rw [e7,e8];simp only [if_true,Bool.false_eq_true,if_false];refine fin g ?_ (fun z h=>by have:=hz z h;omega) (by omega) (by omega);rw [oN,if_pos (by simp),hx,hg,e2]
        ·have e7 :(x.Over==y.Over)=false:=by simpa using hx
         have e8 :(x.Over != y.Over)=true:=by simpa using hx
         rw [e7,e8];rfl
theorem JT (r:aj) (ov:Int) :∀ l:List aa.aH,(∀ z∈l,z.Over≠ov)->mh r ov l=0
 | [],_=>rfl
 | z::l,h=>by have h1:=h z List.mem_cons_self;unfold mh;rw [JT r ov l fun y hy=>h y (List.mem_cons_of_mem _ hy),if_neg (by simpa using h1)];rfl
def qO:List ab->Int
 | []=>0
 | x::l=>x.charge+qO l
theorem Ys {r:aj} (hc :(1<=r.Wide/\r.Wide<=5)/\(1<=r.NoBall/\r.NoBall<=5)) {s:ByteArray} {x:ab} (h:pb r s=some x) :(0<=x.charge/\x.charge<=16)/\(0<=x.byes/\x.byes<=11)/\(0<=x.leg/\x.leg<=11)/\jx s.data.toList=x:=by
 unfold pb at h
 cases hf:He r.Wide r.NoBall s.data.toList fk with
 | none=>rw [hf] at h;cases h
 | some y=>
  rw [hf] at h;have h:some (sU r.Wide r.NoBall y)=some x:=h;cases h;have hr:=(Bx hc.1 hc.2 s.data.toList).2 y hf;have hy:=(rQ hf).1;have hv:=List.all_eq_true.1 KM y hy;have key :(fk.all fun y=>decide (0<=y.2.1)&&(decide (y.2.1<=11)&&(decide (0<=y.2.2.1)&&(decide (y.2.2.1<=11)&&(decide (0<=y.2.2.2.1)&&decide (y.2.2.2.1<=11))))))=true:=by kernel_rfl
  have hb:=List.all_eq_true.1 key y hy;simp only [Bool.and_eq_true,decide_eq_true_eq] at hb;obtain ⟨b1,b2,b3,b4,b5,b6⟩:=hb
  have hk:0<=fB r.Wide r.NoBall y.1/\fB r.Wide r.NoBall y.1<=5:=by
   unfold fB;split
   ·omega
   ·split <;> omega
  refine ⟨⟨?_,?_⟩,⟨b3,b4⟩,⟨b5,b6⟩,hr⟩
  ·show 0<=fB r.Wide r.NoBall y.1+y.2.1;omega
  ·show fB r.Wide r.NoBall y.1+y.2.1<=16;omega
theorem EC :∀ {ys:List ab},(∀ y∈ys,0<=y.charge)->0<=qO ys/\(qO ys==0)=ys.all fun y=>!decide (y.charge>0)
 | [],_=>⟨Int.le_refl _,rfl⟩
 | y::ys,h=>by
  obtain ⟨h1,h2⟩:=EC fun z hz=>h z (List.mem_cons_of_mem _ hz);have h0:=h y List.mem_cons_self;refine ⟨by show 0<=y.charge+qO ys;omega,?_⟩;rw [List.all_cons,<-h2];show (y.charge+qO ys==0)=_;by_cases hy:y.charge>0
  ·rw [decide_eq_true hy];have :¬ y.charge+qO ys=0:=by omega
   simpa using this
  ·rw [decide_eq_false hy]
   have:y.charge=0:=by omega
   rw [this,Int.zero_add];simp
end
section
open Go Go.aa Go.RowKit
attribute [local irreducible] Go.aa.DT.sat Go.aa.a8 Go.aa.RT.sat Go.aa.dD
abbrev yz:bl:=cQ [.nm .ay]
abbrev Bxs:Ty:= .slice (.nm .aH)
abbrev Sts:Ty:= .slice (.nm .ak)
abbrev IG:bl:=⟨[(0,.c (.osl 0 1))],[(0,.row 1 I)],2⟩
def cZ (b:aa.ay):List Int:= [b.Total,b.Wickets,b.an.Wides,b.an.NoBalls,b.an.Byes,b.an.LegByes,b.an.Penalties]
def BC:Den (bj yz)->List Prop×Den (bj IG):=fun x=>([],(cZ x.1,()))
abbrev UT:bl:=cQ [.slice I]
abbrev cO:bl:=cQ [.bool]
def sw (v:Int):Bool:=!(decide (v<0)||decide (v>1000000))
def DN:Den (bj UT)->List Prop×Den (bj cO):=fun x=>([x.1.length<=1000000],(x.1.all sw,()))
abbrev qWi:bl:=⟨[(5,.h (.slice I)),(6,.h I),(7,.h I)],[],0⟩
abbrev xWi:List (Lf×bl):= [(.ext 0,⟨[],[],0⟩),(.ret,⟨[(2,.h .bool)],[],0⟩)]
abbrev TWi:Type:=List Int×Int×Int×Unit
def mA:TWi->Sum Unit (Bool×Unit)
 |(xs,_,i,_)=>if (xs.drop i.toNat).all sw then .inl () else .inr (false,())
def Au:TWi->Prop
 |(xs,n,i,_)=>n =(xs.length:Int)/\xs.length<=1000000/\0<=i/\i<=n
def Pc:TWi->Nat
 |(_,n,i,_)=>(n - i).toNat
theorem DF (b:aa.ay) :(a8 (aI [] Tryz.f66) (fun _=>none) Tryz.f66 yz IG (b,())).sat fun z_=>z_ =(BC (b,())).2:=by
 refine cast (by kernel_rfl) (?_ :([b.5,b.6,b.4.1,b.4.2,b.4.3,b.4.4,b.4.5],()) =(cZ b,()))
 all_goals trivial
def w9:FuncId×dR:=(66,ax KE yz IG BC)
theorem F7:aR Tryz.prog KE 66 (ax KE yz IG BC):=by
 refine bh (C:=aI [] Tryz.f66) (az (aZ.nil) _) mixed (fn:=Tryz.f66) Tryz.func66 (by kernel_rfl) (by kernel_rfl) (by kernel_rfl) (by kernel_rfl) (by kernel_rfl) (by kernel_rfl) (Λ:=fun _ _=>none) ?_ ?_
 ·exact fun _ _ _ _ _ _ _ _ h=>by cases h
 ·rintro ⟨b,⟨⟩⟩ hw hn
  exact DF b
theorem I0 (b:aa.ay) :(a8 (aI [] Tryz.f29) (fun _=>none) Tryz.f29 yz IG (b,())).sat fun z_=>z_ =(BC (b,())).2:=by
 refine cast (by kernel_rfl) (?_ :([b.5,b.6,b.4.1,b.4.2,b.4.3,b.4.4,b.4.5],()) =(cZ b,()))
 all_goals trivial
def Fp:FuncId×dR:=(29,ax KE yz IG BC)
theorem Mq:aR Tryz.prog KE 29 (ax KE yz IG BC):=by
 refine bh (C:=aI [] Tryz.f29) (az (aZ.nil) _) mixed (fn:=Tryz.f29) Tryz.func29 (by kernel_rfl) (by kernel_rfl) (by kernel_rfl) (by kernel_rfl) (by kernel_rfl) (by kernel_rfl) (Λ:=fun _ _=>none) ?_ ?_
 ·exact fun _ _ _ _ _ _ _ _ h=>by cases h
 ·rintro ⟨b,⟨⟩⟩ hw hn
  exact I0 b
noncomputable def Mb:Lp:=(⟨0,aI [] Tryz.f28,(fun _=>none),(aC Tryz.f28 0),qWi,xWi⟩:Lp)
theorem ZA (xs:List Int) (n:Int) (i:Int) (hi:Au (xs,n,i,())) :(Go.aa.stepG Mb mA (fun y:Den (bj Mb.q)=>Au y/\Pc y<Pc (xs,n,i,())) (xs,n,i,())/\Go.aa.bB Mb mA (xs,n,i,())=mA (xs,n,i,())):=by
 refine cast (by kernel_rfl) (?_:let r1:Bool:=cond (decide (xs.getD i.toNat (af (Ty.int IntKind.i64))<0)) true (decide (xs.getD i.toNat (af (Ty.int IntKind.i64))>1000000));((decide (i<n)=true->(0<=i/\i <(↑xs.length:Int))/\(r1=true->True)/\(r1=false->Au (xs,n,IntKind.i64.wrap (i+1),())/\Pc (xs,n,IntKind.i64.wrap (i+1),())<Pc (xs,n,i,())))/\(decide (i<n)=false->True))/\(cond (decide (i<n)) (cond r1 (Sum.inr (false,())) (mA (xs,n,IntKind.i64.wrap (i+1),()))) (Sum.inl ()))=mA (xs,n,i,()));intro r1
 clear_value (hr1:r1=_)
 obtain ⟨h1,h1b,h2,h3⟩:=hi;have h1:n =(xs.length:Int):=h1;have h1b:xs.length<=1000000:=h1b;have h2:0<=i:=h2;have h3:i<=n:=h3;by_cases h:i<n
 ·have e1:IntKind.i64.wrap (i+1)=i+1:=a7 (by omega) (by omega)
  have hd:xs.drop i.toNat=xs.getD i.toNat (af (Ty.int .i64))::xs.drop (i+1).toNat:=by
   have hn:i.toNat<xs.length:=by omega
   have e1 :(i+1).toNat=i.toNat+1:=by omega
   show _=List.getD xs i.toNat 0::_;rw [List.drop_eq_getElem_cons hn,e1,List.getD_eq_getElem?_getD,List.getElem?_eq_getElem hn];rfl
  have er:r1=!sw (xs.getD i.toNat (af (Ty.int .i64))):=by rw [hr1];unfold sw;rw [Bool.not_not];cases decide (xs.getD i.toNat (af (Ty.int .i64))<0) <;> rfl
  have key:mA (xs,n,i,())=bif r1 then .inr (false,()) else mA (xs,n,i+1,()):=by
   show (if (xs.drop i.toNat).all sw=true then _ else _)=_;rw [hd,List.all_cons,er];cases sw (xs.getD i.toNat (af (Ty.int .i64)))
   ·rfl
   ·show (if (true&&_)=true then _ else _)=_;rw [Bool.true_and];rfl
  rw [decide_eq_true h,e1,key];refine ⟨⟨fun _=>⟨⟨h2,by omega⟩,fun _=>trivial,fun _=>⟨⟨h1,h1b,?_,?_⟩,?_⟩⟩,fun z=>Bool.noConfusion z⟩,rfl⟩
  ·show 0<=i+1;omega
  ·show i+1<=n;omega
  ·show (n - (i+1)).toNat <(n - i).toNat;omega
 ·rw [decide_eq_false h];refine ⟨⟨fun z=>Bool.noConfusion z,fun _=>trivial⟩,?_⟩;show _ =(if (xs.drop i.toNat).all sw=true then _ else _);rw [List.drop_eq_nil_of_le (by omega)];rfl
noncomputable def VT:aw:=aq Mb mA Au
noncomputable def Vk:Nat:=fo (aC Tryz.f28 0)
theorem XU:aJ Tryz.prog 0 Tryz.f28.ntmps (aC Tryz.f28 0) (aq Mb mA Au):=
 aD Mb (az (aZ.nil) _) mixed (fun b hb S hS=>by cases hS) mA Au Pc (fun |⟨xs,n,i,⟨⟩⟩,hi=>ZA xs n i hi)
theorem DJ (l:List Int) (hl:l.length<=1000000) :(a8 (aI [] Tryz.f28) (find [(Vk,VT)]) Tryz.f28 UT cO (l,())).sat fun z_=>z_ =(DN (l,())).2:=by
 refine cast (by kernel_rfl) (?_:let r1:Bool:=wV (mA (l,(↑l.length:Int),0,()));((cq fun x=>none)/\(↑l.length:Int) =(↑l.length:Int)/\l.length<=(1000000:Nat)/\(0:Int)<=0/\0<=(↑l.length:Int))/\(r1=true->(true,()) =(l.all sw,()))/\(r1=false->jL (af (Ty.bool.prod Ty.unit)) (mA (l,(↑l.length:Int),0,())) =(l.all sw,())));intro r1
 clear_value (hr1:r1=_)
 have key:mA (l,(l.length:Int),0,())=if l.all sw then .inl () else .inr (false,()):=rfl;rw [key] at hr1 ⊢;refine ⟨⟨rfl,rfl,hl,Int.le_refl _,by omega⟩,fun h=>?_,fun h=>?_⟩
 ·cases ha:l.all sw with
  | true=>rfl
  | false=>rw [hr1,ha] at h;exact Bool.noConfusion h
 ·cases ha:l.all sw with
  | true=>rw [hr1,ha] at h;exact Bool.noConfusion h
  | false=>rfl
def xc:FuncId×dR:=(28,ax KE UT cO DN)
theorem Gd:aR Tryz.prog KE 28 (ax KE UT cO DN):=by
 refine bh (C:=aI [] Tryz.f28) (az (aZ.nil) _) mixed (fn:=Tryz.f28) Tryz.func28 (by kernel_rfl) (by kernel_rfl) (by kernel_rfl) (by kernel_rfl) (by kernel_rfl) (by kernel_rfl) (Λ:=fun x=>find [(Vk,VT)]) ?_ ?_
 ·rintro ⟨l,⟨⟩⟩ hw hn
  exact aL.at (by kernel_rfl) (.cons (by kernel_rfl) (XU) .nil)
 ·rintro ⟨l,⟨⟩⟩ hw hn
  exact DJ l (hn _ List.mem_cons_self)
end
section
open Go Go.aa
def au (f:ab->Int):List ab->Int
 | []=>0
 | x::l=>f x+au f l
theorem rF (f:ab->Int) :∀ a b:List ab,au f (a++b)=au f a+au f b
 | [],b=>by show au f b=0+_;omega
 | x::a,b=>by show f x+au f (a++b)=f x+au f a+_;rw [rF f a b];omega
def gJ (x:ab):Int:=x.charge
def n5 (x:ab):Int:=x.byes
def n6 (x:ab):Int:=x.leg
def mK (x:ab):Int:=if x.kind==119 then x.charge else 0
def mJ (n:Int) (x:ab):Int:=if x.kind==110 then n else 0
def mb (x:ab):Int:=if x.kind==119 then 0 else 1
def lD (x:ab):Int:=if x.mark==82 then 1 else 0
def lN (x:ab):Int:=if x.mark==87 then 1 else 0
def aU:List (List ab)->List ab
 | []=> []
 | ys::es=>ys++aU es
def Ur (p:Int):List aa.aH->List (List ab)->Int
 | x::l,ys::es=>(if x.Bowler==p then au lN ys else 0)+Ur p l es
 | _,_=>0
def bt (f:aa.ak->Int):List aa.ak->Int
 | []=>0
 | x::l=>f x+bt f l
def eb:List ByteArray->Int
 | []=>0
 | s::l=>(cd s).1+eb l
def kV (x:aa.ak):Int:=(x.Symbols.length:Int)
def rz (x:aa.ak):Int:=eb x.Symbols
def qi (x:aa.ak):Int:=if x.How==0 then 0 else 1
def Uz (p:Int) (x:aa.ak):Int:=if x.Bowler==p then 1 else 0
def qj (x:aa.ak):Int:=if x.How==6 ||(x.How==7||x.How==8) then 1 else 0
def n4 (r:aj) (b:aa.ay) (es:List (List ab)):Bool:=
 au mb (aU es)==bt kV b.Strips&&(au lD (aU es)==bt qj b.Strips&&(bt rz b.Strips==au gJ (aU es) - b.an.Wides - b.an.NoBalls &&
 (b.an.Wides==au mK (aU es)&&(b.an.NoBalls==au (mJ r.NoBall) (aU es)&&(b.an.Byes==au n5 (aU es)&&(b.an.LegByes==au n6 (aU es) &&
 (b.an.Penalties.tmod 5==0&&(b.Total==au gJ (aU es)+b.an.Byes+b.an.LegByes+b.an.Penalties&&(b.Wickets==bt qi b.Strips &&
 (List.range r.Side.toNat).all fun k:Nat=>Ur ((k:Int)+1) b.Boxes es==bt (Uz ((k:Int)+1)) b.Strips)))))))))
def bC (l:List Int) (i:Int) (n:Int):List Int:=l.set i.toNat (l.getD i.toNat 0+n)
theorem fu (l:List Int) (i n:Int) :(bC l i n).length=l.length:=List.length_set
theorem pD (l:List Int) (i:Int):bC l i 0=l:=by
 unfold bC;rw [Int.add_zero];by_cases h:i.toNat<l.length
 ·rw [List.getD_eq_getElem?_getD,List.getElem?_eq_getElem h];exact List.set_getElem_self h
 ·exact List.set_eq_of_length_le (by omega)
theorem B4 (l:List Int) {i:Int} (n:Int) {p:Nat} (hp:p<l.length) :(bC l i n).getD p 0=l.getD p 0+if i.toNat=p then n else 0:=by
 unfold bC;rw [List.getD_eq_getElem?_getD,List.getD_eq_getElem?_getD];by_cases h:i.toNat=p
 ·subst h;rw [List.getElem?_set_self hp,if_pos rfl,List.getD_eq_getElem?_getD];rfl
 ·rw [List.getElem?_set_ne h,if_neg h,Int.add_zero,List.getD_eq_getElem?_getD]
theorem zt (l:List Int) (i a b:Int):bC (bC l i a) i b=bC l i (a+b):=by
 by_cases h:i.toNat<l.length
 ·have e:=B4 l (i:=i) a h;rw [if_pos rfl] at e;unfold bC at e ⊢;rw [e,List.set_set];congr 1;omega
 ·have e :∀ x,l.set i.toNat x=l:=fun x=>List.set_eq_of_length_le (by omega);unfold bC;simp only [e]
def dM:List Int->List aa.aH->List (List ab)->List Int
 | t,x::l,ys::es=>dM (bC t x.Bowler (au lN ys)) l es
 | t,_,_=>t
theorem mD :∀ (t:List Int) (l:List aa.aH) (es:List (List ab)),(dM t l es).length=t.length
 | t,[],_=>by cases t <;> rfl
 | t,_::_,[]=>rfl
 | t,x::l,ys::es=>by show (dM (bC t x.Bowler (au lN ys)) l es).length=_;rw [mD,fu]
theorem GX :∀ (t:List Int) (l:List aa.aH) (es:List (List ab)) {p:Nat},(∀ x∈l,0<=x.Bowler)->p<t.length->(dM t l es).getD p 0=t.getD p 0+Ur (p:Int) l es
 | t,[],es,p,_,_=>by
  have e1:dM t [] es=t:=by cases es <;> rfl
  have e2:Ur (p:Int) [] es=0:=by cases es <;> rfl
  rw [e1,e2];omega
 | t,x::l,[],p,_,_=>by show t.getD p 0=t.getD p 0+0;omega
 | t,x::l,ys::es,p,h,hp=>by
  show (dM (bC t x.Bowler (au lN ys)) l es).getD p 0=_;have hx:=h x List.mem_cons_self;rw [GX _ l es (fun z hz=>h z (List.mem_cons_of_mem _ hz)) (by rw [fu];exact hp),B4 t _ hp];show _+Ur (p:Int) l es=t.getD p 0 +((if x.Bowler ==(p:Int) then au lN ys else 0)+Ur (p:Int) l es);by_cases he:x.Bowler =(p:Int)
  ·rw [if_pos (by omega),if_pos (by simpa using he)];omega
  ·rw [if_neg (by omega),if_neg (by simpa using he)];omega
def ml:List Int->List aa.ak->List Int
 | t,[]=>t
 | t,x::l=>ml (bC t x.Bowler (-1)) l
theorem xy :∀ (t:List Int) (l:List aa.ak),(ml t l).length=t.length
 | _,[]=>rfl
 | t,x::l=>by show (ml (bC t x.Bowler (-1)) l).length=_;rw [xy,fu]
theorem J7 :∀ (t:List Int) (l:List aa.ak) {p:Nat},(∀ x∈l,0<=x.Bowler)->p<t.length->(ml t l).getD p 0=t.getD p 0 - bt (Uz (p:Int)) l
 | t,[],p,_,_=>by show _=_ - 0;rw [Int.sub_zero];rfl
 | t,x::l,p,h,hp=>by
  show (ml (bC t x.Bowler (-1)) l).getD p 0=_;have hx:=h x List.mem_cons_self;rw [J7 _ l (fun z hz=>h z (List.mem_cons_of_mem _ hz)) (by rw [fu];exact hp),B4 t _ hp];show _=_ - (Uz (p:Int) x+bt (Uz (p:Int)) l);unfold Uz;by_cases he:x.Bowler =(p:Int)
  ·rw [if_pos (by omega),if_pos (by simpa using he)];omega
  ·rw [if_neg (by omega),if_neg (by simpa using he)];omega
theorem Qa {n:Nat} (l:List aa.aH) (es:List (List ab)) (st:List aa.ak) (h1 :∀ x∈l,0<=x.Bowler) (h2 :∀ x∈st,0<=x.Bowler) :
  ((ml (dM (List.replicate (n+1) 0) l es) st).drop 1).all (fun v=>v==0) =(List.range n).all fun k:Nat=>Ur ((k:Int)+1) l es==bt (Uz ((k:Int)+1)) st:=by
 have hlen :(ml (dM (List.replicate (n+1) 0) l es) st).length=n+1:=by rw [xy,mD,List.length_replicate]
 have hat :∀ p,p<n+1->(ml (dM (List.replicate (n+1) 0) l es) st).getD p 0=Ur (p:Int) l es - bt (Uz (p:Int)) st:=fun p hp=>by rw [J7 _ st h2 (by rw [mD,List.length_replicate];exact hp),GX _ l es h1 (by rw [List.length_replicate];exact hp),List.getD_eq_getElem?_getD,List.getElem?_replicate,if_pos hp];show 0+_ - _=_;omega
 generalize ml (dM (List.replicate (n+1) 0) l es) st=t at *;rw [Bool.eq_iff_iff,List.all_eq_true,List.all_eq_true];constructor
 ·intro h k hk;have hk:=List.mem_range.1 hk;have e:=hat (k+1) (by omega)
  have hm:t.getD (k+1) 0∈t.drop 1:=by rw [List.getD_eq_getElem?_getD,List.getElem?_eq_getElem (by omega)];show t[k+1]∈_;rw [List.mem_drop_iff_getElem];exact ⟨k,by omega,by congr 1;omega⟩
  have:=h _ hm
  rw [e] at this
  have:Ur ((k+1:Nat):Int) l es - bt (Uz ((k+1:Nat):Int)) st=0:=by simpa using this
  rw [show ((k+1:Nat):Int) =(k:Int)+1 by omega] at this;simp only [beq_iff_eq];omega
 ·intro h v hv;rw [List.mem_drop_iff_getElem] at hv;obtain ⟨k,hk,rfl⟩:=hv;have e:=hat (1+k) (by omega);rw [List.getD_eq_getElem?_getD,List.getElem?_eq_getElem (by omega)] at e;have e:t[1+k]=_:=e
  have:=h k (List.mem_range.2 (by omega))
  simp only [beq_iff_eq] at this ⊢;rw [e,show ((1+k:Nat):Int) =(k:Int)+1 by omega];omega
def ei:List ao:=
 [{ how:=0,name:={ data:=#[78,79,84,79,85,84] },fair:=false,wide:=false,no:=false,fielder:=false,either:=false },
  { how:=1,name:={ data:=#[66,79,87,76,69,68] },fair:=true,wide:=false,no:=false,fielder:=false,either:=false },
  { how:=2,name:={ data:=#[67,65,85,71,72,84] },fair:=true,wide:=false,no:=false,fielder:=true,either:=false },
  { how:=3,name:={ data:=#[76,66,87] },fair:=true,wide:=false,no:=false,fielder:=false,either:=false },
  { how:=4,name:={ data:=#[83,84,85,77,80,69,68] },fair:=true,wide:=true,no:=false,fielder:=true,either:=false },
  { how:=5,name:={ data:=#[72,73,84,87,73,67,75,69,84] },fair:=true,wide:=true,no:=false,fielder:=false,either:=false },
  { how:=6,name:={ data:=#[82,85,78,79,85,84] },fair:=true,wide:=true,no:=true,fielder:=true,either:=true },
  { how:=7,name:={ data:=#[72,73,84,84,87,73,67,69] },fair:=true,wide:=false,no:=true,fielder:=false,either:=false },
  { how:=8,name:={ data:=#[79,66,83,84,82,85,67,84,73,78,71] },fair:=true,wide:=true,no:=true,fielder:=false,either:=true },
  { how:=9,name:={ data:=#[84,73,77,69,68,79,85,84] },fair:=false,wide:=false,no:=false,fielder:=false,either:=false },
  { how:=10,name:={ data:=#[82,69,84,73,82,69,68] },fair:=false,wide:=false,no:=false,fielder:=false,either:=false }]
def mj (h:Int):ao:=(ei.find? fun w=>w.how==h).getD ao.zero
def S8:Ty:= .unit
def DS:Den S8->mL:=fun _=>⟨[],.osl 0 0,[⟨.nm .ao,ei⟩]⟩
def Gu:Ty:= .prod (.int .u8) .unit
def DR:Den Gu->mL:=fun x=>⟨[],.agg (flat gb (.nm .ao) (mj x.1)),[]⟩
def DQ:Den Gu->mL:=fun x=>⟨[],.str (mj x.1).name,[]⟩
def k61:FuncId×dR:=(177,bq KK S8 DS)
def k57:FuncId×dR:=(143,bq KK Gu DR)
def k25:FuncId×dR:=(120,bq KK Gu DQ)
def J57 (h:Int) (i:Nat):St:=⟨[(0,.int .u8 h),(2,.ptr 0 0),(5,.osl 4 4),(6,.int .i64 ei.length),(7,.int .i64 i)],
 [(4,.row 4 true (.nm .ao) ei),(0,.cells (flat gb (.nm .ao) ao.zero))],fun _=>none,16⟩
def T57 (h:Int):Tr:= .br (ei.any fun w=>w.how==h) (.leaf .ret ⟨[(2,.ptr 0 0)],[(0,.cells (flat gb (.nm .ao) (mj h)))]⟩ 16)
 (.leaf (.ext 0) ⟨[(2,.ptr 0 0)],[(0,.cells (flat gb (.nm .ao) ao.zero))]⟩ 16)
def JI (h:Int) (i:Nat):Prop:=i<=11/\∀ w∈ei.take i,(w.how==h)=false
def L57 (i:Nat):List (Lspec Nat):= [.out [true] [] [],.next (i+1) [] [],.out [false] [] []]
def Λ57 (h:Int):Nat->Option aw:=find [(2,gr ⟨[],[],16⟩ (J57 h 0) (T57 h))]
abbrev K8:Nat:=8
def aaG (l:vN) (n:Nat):Cfg:=⟨VZ,find l,K8,n⟩
def zB (l:vN) (fn:Func):Cfg:=aaG l fn.ntmps
theorem jr {l:vN} (h:aZ Tryz.prog K8 l) (n:Nat):CfgOK Tryz.prog (aaG l n):=⟨D1,by show 1<=K8;decide,h⟩
def aA (n lo hi:Int):Bool:=decide (n>=lo)&&decide (n<=hi)
def fy (r:aj):Bool:=
 aA r.Side 2 11&&(aA r.Innings 1 2&&(aA r.Overs 0 90&&(aA r.Balls 4 8&&(aA r.Quota 0 90&&(aA r.Wide 1 5&&(aA r.NoBall 1 5&&(
 aA r.NewBall 0 200&&(aA r.FollowOn 0 1000&&(aA r.Reviews 0 9&&aA r.Outside 0 11)))))))))
def bP (r:aj) (i:Nat):Phase:=r.Power.getD i Phase.zero
def oV (r:aj) (p:Phase):Bool:=decide (p.From<1) ||(decide (p.From>p.To) ||(decide (p.To>r.Overs)||!aA p.Outside 0 11))
def jE (r:aj) (i:Nat):Int:=
 if oV r (bP r i) then 2 else if decide ((i:Int)>0)&&decide ((bP r i).From<=(bP r (i - 1)).To) then 8 else 0
def cz (r:aj):Nat->Nat->Int
 | _,0=>0
 | i,n+1=>if jE r i != 0 then jE r i else cz r (i+1) n
def fP (r:aj):Int:=if (r.Power.length:Int)>8 then 9 else cz r 0 r.Power.length
def mN (s:ByteArray) (i:Nat):Int:=((s.data.getD i 0).toNat:Int)
def pN (c:Int):Bool:=decide (c>=65)&&decide (c<=90)
def vS (i:Int) (c:Int):Bool:=!pN c&&(i==0 ||(c != 95&&(c != 45&&(decide (c<48)||decide (c>57)))))
def lh (s:ByteArray):Bool:=(List.range s.size).all (fun i=>!vS i (mN s i))&&(decide ((s.size:Int)>=1)&&decide ((s.size:Int)<=16))
def IC:Ty:= .prod (.int .i64) (.prod (.int .i64) (.prod (.int .i64) .unit))
def px:Den IC->mL:=fun x=>⟨[],.bool (aA x.1 x.2.1 x.2.2.1),[]⟩
def rl:Ty:= .prod (.nm .aj) .unit
def DU:Den rl->mL:=fun x=>⟨[],.bool (fy x.1),[]⟩
def DV:Den rl->mL:=fun x=>⟨[],.int .i64 (fP x.1),[]⟩
def ID:Ty:= .prod .str .unit
def pw:Den ID->mL:=fun x=>⟨[],.bool (lh x.1),[]⟩
def k97:FuncId×dR:=(148,bq K8 IC px)
def k96:FuncId×dR:=(72,bq K8 IC px)
def k93:FuncId×dR:=(113,bq K8 rl DU)
def k94:FuncId×dR:=(114,bq K8 rl DV)
def k95:FuncId×dR:=(71,bq K8 ID pw)
def k92:FuncId×dR:=(112,bq K8 ID pw)
def uJ (r:aj) (i:Nat):Prop:=i<=r.Power.length/\cz r 0 r.Power.length=cz r i (r.Power.length - i)
def L94 (i:Nat):List (Lspec Nat):= [.out [true] [] [],.out [true] [] [],.next (i+1) [] [],.out [false] [] []]
def J94 (r:aj) (i:Nat):St:=⟨[(1,.ptr 0 0),(10,.fsl (.nm .Phase) r.Power),(11,.int .i64 r.Power.length),(12,.int .i64 i)],[(0,.cells (flat gb (.nm .aj) r))],fun _=>none,8⟩
def Ut (r:aj):Tr:= .br (cz r 0 r.Power.length != 0) (.leaf .ret ⟨[(2,.int .i64 (cz r 0 r.Power.length))],[]⟩ 8) (.leaf (.ext 0) ⟨[],[]⟩ 8)
def Λ94 (r:aj):Nat->Option aw:=find [(4,gr ⟨[],[],8⟩ (J94 r 0) (Ut r))]
def fx (s:ByteArray) (i:Nat):Bool:=(List.range i).all (fun k=>!vS k (mN s k))
def uK (s:ByteArray) (i:Nat):Prop:=i<=s.size/\fx s i=true
def L95 (i:Nat):List (Lspec Nat):= [.out [false] [] [],.next (i+1) [] [],.out [true] [] []]
def J95 (s:ByteArray) (i:Nat):St:=⟨[(0,.str s),(3,.int .i64 i)],[],fun _=>none,0⟩
def T95 (s:ByteArray):Tr:= .br (fx s s.size) (.leaf (.ext 0) ⟨[],[]⟩ 0) (.leaf .ret ⟨[(2,.kb false)],[]⟩ 0)
def Λ95 (s:ByteArray):Nat->Option aw:=find [(4,gr ⟨[],[],0⟩ (J95 s 0) (T95 s))]
def vQ (r:aj):Bool:=(r.FollowOn != 0&&r.Innings==1) ||((r.Quota != 0||decide ((r.Power.length:Int)>0))&&r.Overs==0)
def Hw (r:aj):Bool:=r.Quota != 0&&decide (IntKind.i64.wrap (r.Quota*r.Side)<r.Overs)
def bI (r:aj):Int:=if !lh r.Name then 5 else if !fy r then 2 else if vQ r then 1 else if Hw r then 13 else fP r
def pq:Den rl->mL:=fun x=>⟨[],.int .i64 (bI x.1),[]⟩
def k85:FuncId×dR:=(64,bq K8 rl pq)
def k86:FuncId×dR:=(27,bq K8 rl pq)
def J86 (r:aj) (i:Nat):St:=⟨[(1,.ptr 0 0),(115,.fsl (.nm .Phase) r.Power),(116,.int .i64 r.Power.length),(117,.int .i64 i)],[(0,.cells (flat gb (.nm .aj) r))],fun _=>none,8⟩
def Λ86 (r:aj):Nat->Option aw:=find [(12,gr ⟨[],[],8⟩ (J86 r 0) (Ut r))]
def qZ (h:Int):Bool:=(mj h).name.toList ==(⟨#[]⟩:ByteArray).toList
def cW (r:aj) (pre:List aa.ak) (x:aa.ak):Int:=
 if decide (x.Player<1)||decide (x.Player>r.Side) then 2 else if pre.any (fun y=>y.Player==x.Player) then 7
 else if x.Symbols.any (fun s=>!(cd s).2) then 4 else if qZ x.How then 3
 else if eI x.How&&(decide (x.Bowler<1)||decide (x.Bowler>r.Side))||!eI x.How&&x.Bowler != 0 then 1 else 0
def bb (r:aj):List aa.ak->List aa.ak->Int
 | _,[]=>0
 | pre,x::l=>if cW r pre x != 0 then cW r pre x else bb r (pre++[x]) l
def qK:List aa.aH->Int
 | []=>0
 | x::l=>(x.Symbols.length:Int)+qK l
def jd (b:aa.ay):Bool:=decide ((b.Boxes.length:Int)>4000) ||(decide ((b.Strips.length:Int)>4000) ||(decide (qK b.Boxes>4000)||decide (bt kV b.Strips>4000)))
def qC (b:aa.ay):Bool:=b.Side != 1&&b.Side != 2
def yF (r:aj) (b:aa.ay) (es:List (List ab)):Int:=if bb r [] b.Strips != 0 then bb r [] b.Strips else if n4 r b es then 0 else 12
def fL (r:aj) (b:aa.ay):Int:=
 if bI r != 0 then bI r else if qC b||!(cZ b).all sw then 2 else if jd b then 9
 else match pZ r b.Boxes none 0 [] with
  | .inl e=>e
  | .inr es=>yF r b es
def rI (r:aj) (b:aa.ay):List (List ab):=b.Boxes.map fun x=>(jj r x.Symbols).getD []
def bR (r:aj) (b:aa.ay):Int:=
 if bI r != 0 then bI r else if qC b||!(cZ b).all sw then 2 else if jd b then 9
 else if vw r [] b.Boxes != 0 then vw r [] b.Boxes else yF r b (rI r b)
theorem B5 {r:aj} :∀ (l:List aa.aH) (p:Option (Int×Int)) (g:Int) (o:List (List ab)) {es:List (List ab)},pZ r l p g o = .inr es->es=o++l.map fun x=>(jj r x.Symbols).getD []
 | [],_,_,o,es,h=>by have h:Sum.inr o =(Sum.inr es:Sum Int _):=h;cases h;rw [List.map_nil,List.append_nil]
 | x::l,p,g,o,es,h=>by
  unfold pZ at h;split at h
  ·cases h
  ·cases hs:jj r x.Symbols with
   | none=>rw [hs] at h;cases h
   | some ys=>
    rw [hs] at h;simp only at h;split at h
    ·cases h
    ·cases ho:vc r p g x with
     | none=>rw [ho] at h;cases h
     | some g1=>
      rw [ho] at h;simp only at h;split at h
      ·cases h
      ·have:=B5 l _ _ _ h
       rw [this,List.map_cons,hs,List.append_assoc];rfl
theorem vv {r:aj} :∀ (l:List aa.aH) (p:Option (Int×Int)) (g:Int) (o:List (List ab)) {e:Int},pZ r l p g o = .inl e->e≠0
 | [],_,_,o,e,h=>by cases h
 | x::l,p,g,o,e,h=>by
  unfold pZ at h;split at h
  ·cases h;decide
  ·cases hs:jj r x.Symbols with
   | none=>rw [hs] at h;cases h;decide
   | some ys=>
    rw [hs] at h;simp only at h;split at h
    ·cases h;decide
    ·cases ho:vc r p g x with
     | none=>rw [ho] at h;cases h;decide
     | some g1=>
      rw [ho] at h;simp only at h;split at h
      ·cases h;decide
      ·exact vv l _ _ _ h
theorem s8 (r:aj) {b:aa.ay} (h:b.Boxes.length<=4000):fL r b=bR r b:=by
 unfold fL bR;have ho:=ug (r:=r) b.Boxes [] none 0 [] (.inl ⟨rfl,rfl,rfl⟩) (by simpa using h)
 cases hp:pZ r b.Boxes none 0 [] with
 | inl e=>
  have he:=vv _ _ _ _ hp;rw [hp] at ho;have ho:e=vw r [] b.Boxes:=ho;rw [<-ho];have hn :(e != 0)=true:=by simpa using he
  rw [hn];rfl
 | inr es=>
  have he:=B5 _ _ _ _ hp;rw [hp] at ho;have ho:0=vw r [] b.Boxes:=ho;rw [<-ho,he];rfl
theorem MH (l:List ByteArray) :(l.any fun s=>!(cd s).2)=l.any fun s=>decide (gn s<0):=by
 have nn :∀ s,(cd s).2=true->0<=(cd s).1:=fun s h=>by
  unfold cd at h ⊢;split
  ·exact Int.le_refl _
  ·rename_i hd;rw [if_neg hd] at h;have h :(dX s 1 11).2=0:=by simpa using h
   have:=Ie h
   show 0<=(dX s 1 11).1;omega
 congr 1;funext s;rw [KL]
 cases hf :(cd s).2 with
 | true=>rw [if_pos rfl,decide_eq_false (by have:=nn s hf;omega)];rfl
 | false=>rfl
def Hd (n:Int):ByteArray:=Utf8.encode (IntKind.i32.wrap n)
def MN (x:ab):ByteArray:=if x.kind != 0 then Hd x.kind++dp x.charge else dp x.charge
def MO (x:ab):ByteArray:=if decide (x.byes>0) then MN x ++(⟨#[98]⟩++dp x.byes) else MN x
def KA (x:ab):ByteArray:=if decide (x.leg>0) then MO x ++(⟨#[108]⟩++dp x.leg) else MO x
def jn (x:ab):ByteArray:=if x.mark != 0 then KA x++Hd x.mark else KA x
def b9 (n:Int):Prop:=0<=n/\n<=1000000
def Lv (x:ab):Prop:=b9 x.charge/\b9 x.byes/\b9 x.leg
def k3 (n a b:Int):Prop:=n=0\/n=a\/n=b
theorem ND:Hd 119 =⟨#[119]⟩:=by kernel_rfl
theorem NC:Hd 110 =⟨#[110]⟩:=by kernel_rfl
theorem NB:Hd 87 =⟨#[87]⟩:=by kernel_rfl
theorem NA:Hd 82 =⟨#[82]⟩:=by kernel_rfl
theorem rD {n a b:Int} (h:k3 n a b) (hab :(a=119/\b=110)\/(a=87/\b=82)) :(Hd n).size<=1:=by
 rcases hab with ⟨rfl,rfl⟩ |⟨rfl,rfl⟩ <;> rcases h with rfl|rfl|rfl
 ·exact Nat.le_of_ble_eq_true (by kernel_rfl)
 ·rw [ND];exact Nat.le_refl _
 ·rw [NC];exact Nat.le_refl _
 ·exact Nat.le_of_ble_eq_true (by kernel_rfl)
 ·rw [NB];exact Nat.le_refl _
 ·rw [NA];exact Nat.le_refl _
theorem lW (n:Int) :(dp n).data.toList=UN n:=by unfold dp UN;split <;> rfl
theorem fM {n:Int} (h:b9 n) :(dp n).size<=21:=by
 unfold dp;split
 ·exact Nat.le_of_ble_eq_true rfl
 ·exact Lh h.1 h.2
theorem iX (a b:ByteArray) :(a++b).data.toList=a.data.toList++b.data.toList:=by rw [ByteArray.data_append,Array.toList_append]
theorem BJ {x:ab} (hk:k3 x.kind 119 110) (hm:k3 x.mark 87 82) :(jn x).data.toList=MK x:=by
 have e1 :(MN x).data.toList =(if x.kind==119 then [119] else if x.kind==110 then [110] else [])++UN x.charge:=by
  unfold MN;rcases hk with h|h|h <;> rw [h]
  ·exact lW _
  ·show (Hd 119++_).data.toList=_;rw [ND,iX,lW];rfl
  ·show (Hd 110++_).data.toList=_;rw [NC,iX,lW];rfl
 have e2 :(MO x).data.toList =(MN x).data.toList ++(if decide (x.byes>0) then 98::UN x.byes else []):=by
  unfold MO;cases decide (x.byes>0)
  ·exact (List.append_nil _).symm
  ·show (MN x ++(_++_)).data.toList=_;rw [iX,iX,lW];rfl
 have e3 :(KA x).data.toList =(MO x).data.toList ++(if decide (x.leg>0) then 108::UN x.leg else []):=by
  unfold KA;cases decide (x.leg>0)
  ·exact (List.append_nil _).symm
  ·show (MO x ++(_++_)).data.toList=_;rw [iX,iX,lW];rfl
 have e4 :(jn x).data.toList =(KA x).data.toList ++(if x.mark==87 then [87] else if x.mark==82 then [82] else []):=by
  unfold jn;rcases hm with h|h|h <;> rw [h]
  ·exact (List.append_nil _).symm
  ·show (KA x++Hd 87).data.toList=_;rw [NB,iX];rfl
  ·show (KA x++Hd 82).data.toList=_;rw [NA,iX];rfl
 rw [e4,e3,e2,e1];unfold MK;simp only [List.append_assoc]
theorem Ub {x:ab} (hf:Lv x) (hk:k3 x.kind 119 110) (hm:k3 x.mark 87 82) :(MN x).size<=22/\(MO x).size<=44/\(KA x).size<=66/\(jn x).size<=67:=by
 have z1:=fM hf.1;have z2:=fM hf.2.1;have z3:=fM hf.2.2;have ck:=rD hk (.inl ⟨rfl,rfl⟩);have cm:=rD hm (.inr ⟨rfl,rfl⟩);have o1 :(ByteArray.mk #[98]).size=1:=rfl;have o2 :(ByteArray.mk #[108]).size=1:=rfl
 have e1 :(MN x).size<=22:=by
  unfold MN;split
  ·rw [ByteArray.size_append];omega
  ·omega
 have e2 :(MO x).size<=44:=by
  unfold MO;split
  ·rw [ByteArray.size_append,ByteArray.size_append];omega
  ·omega
 have e3 :(KA x).size<=66:=by
  unfold KA;split
  ·rw [ByteArray.size_append,ByteArray.size_append];omega
  ·omega
 refine ⟨e1,e2,e3,?_⟩;unfold jn;split
 ·rw [ByteArray.size_append];omega
 ·omega
theorem Js :∀ (k:Nat) (n:Int) (l:List UInt8),∃ m,m<=l.length/\(wc k n l).2=l.drop m
 | 0,_,l=>⟨0,Nat.zero_le _,rfl⟩
 | _+1,_,[]=>⟨0,Nat.zero_le _,rfl⟩
 | k+1,n,c::l=>by
  unfold wc;split
  ·obtain ⟨m,h1,h2⟩:=Js k (10*n +((c.toNat:Int) - 48)) l;exact ⟨m+1,by rw [List.length_cons];omega,h2⟩
  ·exact ⟨0,Nat.zero_le _,rfl⟩
theorem D2 :∀ k:Nat,(1:Int)<=10 ^ k
 | 0=>Int.le_refl _
 | k+1=>by rw [Int.pow_succ];have:=D2 k;omega
theorem NH :∀ (k:Nat) (n:Int) (l:List UInt8),0<=n->(wc k n l).1 <(n+1)*10 ^ k
 | 0,n,_,_=>by show n <(n+1)*1;omega
 | k+1,n,[],h=>by
  show n <(n+1)*10 ^ (k+1);have h1:=D2 (k+1)
  have:=Int.mul_le_mul_of_nonneg_left h1 (show 0<=n+1 by omega)
  omega
 | k+1,n,c::l,h=>by
  unfold wc;split
  ·rename_i hc;simp only [Bool.and_eq_true,decide_eq_true_eq] at hc
   have:=NH k (10*n +((c.toNat:Int) - 48)) l (by omega)
   have hp :(0:Int)<=10 ^ k:=Int.le_of_lt (Int.pow_pos (by decide));have h2:=Int.mul_le_mul_of_nonneg_right (show 10*n +((c.toNat:Int) - 48)+1<=(n+1)*10 by omega) hp;rw [Int.mul_assoc] at h2;have e :(10:Int)*10 ^ k=10 ^ (k+1):=by rw [Int.pow_succ,Int.mul_comm]
   rw [e] at h2;omega
  ·have h1:=D2 (k+1)
   have:=Int.mul_le_mul_of_nonneg_left h1 (show 0<=n+1 by omega)
   show n<_;omega
theorem Cs (l:List UInt8):b9 (gH l).1:=by
 refine ⟨Ct l,?_⟩
 cases l with
 | nil=>show (0:Int)<=_;decide
 | cons c l=>
  by_cases h :(c==46)=true
  ·simp only [gH,h,if_true];decide
  ·simp only [gH,h]
   have:=NH 6 0 (c::l) (Int.le_refl _)
   have e :((0:Int)+1)*10 ^ 6=1000000:=by decide
   rw [e] at this;show (wc 6 0 (c::l)).1<=_;omega
def gI (s:ByteArray) (n i:Int):Int×Int:=
 ((wc (6 - i).toNat n (s.data.toList.drop i.toNat)).1,(s.size:Int) - ((wc (6 - i).toNat n (s.data.toList.drop i.toNat)).2.length:Int))
theorem ki (s:ByteArray):s.data.toList.length=s.size:=by rw [Array.length_toList];rfl
theorem EW (s:ByteArray) {k:Nat} (h:k<=s.size) :(s.extract k s.size).data.toList=s.data.toList.drop k:=by
 have:s.size=s.data.size:=rfl
 rw [ByteArray.data_extract,Array.toList_extract,this];show (s.data.toList.extract k s.data.size)=_;rw [<-Array.length_toList,List.extract_eq_take_drop,List.take_of_length_le (by rw [List.length_drop];omega)]
theorem NO (s:ByteArray) (n:Int) {i:Int} (h0:0<=i) (h1:i<=s.size) :(i<=(gI s n i).2/\(gI s n i).2<=s.size)/\s.extract (gI s n i).2.toNat s.size=vd (wc (6 - i).toNat n (s.data.toList.drop i.toNat)).2:=by
 obtain ⟨m,hm,he⟩:=Js (6 - i).toNat n (s.data.toList.drop i.toNat);have hl:=ki s;rw [List.length_drop,hl] at hm
 have e2 :(gI s n i).2=i+m:=by unfold gI;simp only;rw [he,List.length_drop,List.length_drop,hl];omega
 have e3 :(gI s n i).2.toNat=i.toNat+m:=by rw [e2];omega
 refine ⟨⟨by omega,by omega⟩,?_⟩;apply qM;rw [EW s (by omega),he,e3,List.drop_drop];rfl
def dgZ (s:ByteArray):Int×ByteArray:=((gH s.data.toList).1,vd (gH s.data.toList).2)
def Ld (s t:ByteArray):ByteArray:=vd (Lib.trimPrefix s.data.toList t.data.toList)
def Fg (s t:ByteArray):Bool:=Lib.hasPrefix s.data.toList t.data.toList
theorem Le (s t:ByteArray) :(Ld s t).size<=s.size:=by
 show (Lib.trimPrefix s.data.toList t.data.toList).toArray.size<=s.size;rw [List.size_toArray,<-ki s];unfold Lib.trimPrefix;split
 ·rw [List.length_drop];omega
 ·exact Nat.le_refl _
theorem oK (s:ByteArray) (c:UInt8):Fg s ⟨#[c]⟩=match s.data.toList with | []=>false|x::_=>x==c:=by
 unfold Fg Lib.hasPrefix;show List.isPrefixOf [c] _=_
 cases s.data.toList with
 | nil=>rfl
 | cons x l=>
  show (c==x&&List.isPrefixOf [] l) =(x==c);rw [BEq.comm];simp [List.isPrefixOf]
theorem NG (s:ByteArray) (c:UInt8):Ld s ⟨#[c]⟩=if Fg s ⟨#[c]⟩ then vd (s.data.toList.drop 1) else s:=by
 unfold Ld Lib.trimPrefix Fg;split
 ·rfl
 ·exact qM rfl
theorem Yr (t:List UInt8):b9 (Rh t)/\b9 (Ri t):=by
 have z:b9 0:=by unfold b9;decide
 cases t with
 | nil=>exact ⟨z,z⟩
 | cons c t=>
  show b9 (if (c==98)=true then (gH t).1 else 0)/\b9 (if (c==108)=true then (gH t).1 else 0);constructor
  ·split
   ·exact Cs t
   ·exact z
  ·split
   ·exact Cs t
   ·exact z
theorem Yt (l:List UInt8):Lv (jx l):=⟨Cs _,Yr _⟩
theorem V3 (c d:UInt8) :((c.toNat:Int) ==(d.toNat:Int)) =(c==d):=by
 rw [Bool.eq_iff_iff,beq_iff_eq,beq_iff_eq];constructor
 ·intro h;exact UInt8.toNat_inj.1 (by omega)
 ·rintro rfl;rfl
theorem G2 (t:List UInt8) (c:UInt8) (u:List UInt8) (h:t=c::u):Lib.trimPrefix t [c]=u:=by subst h;unfold Lib.trimPrefix Lib.hasPrefix;rw [if_pos (by simp [List.isPrefixOf])];rfl
def EN (y:ab):Prop:=(0<=y.charge/\y.charge<=16)/\(0<=y.byes/\y.byes<=11)/\(0<=y.leg/\y.leg<=11)
def rJ (l:List ab):Prop:=∀ y∈l,EN y
theorem B9 {f:ab->Int} {l:List ab} (h :∀ y∈l,0<=f y/\f y<=16):0<=au f l/\au f l<=16 *(l.length:Int):=by
 induction l with
 | nil=>exact ⟨Int.le_refl _,Int.le_refl _⟩
 | cons y l ih=>
  have h1:=h y List.mem_cons_self;have h2:=ih fun z hz=>h z (List.mem_cons_of_mem _ hz);have e:au f (y::l)=f y+au f l:=rfl;have el :((y::l).length:Int)=l.length+1:=rfl;rw [e,el];omega
theorem oB {y:ab} (h:EN y):0<=gJ y/\gJ y<=16:=h.1
theorem tw {y:ab} (h:EN y):0<=n5 y/\n5 y<=16:=⟨h.2.1.1,Int.le_trans h.2.1.2 (by decide)⟩
theorem tx {y:ab} (h:EN y):0<=n6 y/\n6 y<=16:=⟨h.2.2.1,Int.le_trans h.2.2.2 (by decide)⟩
theorem tA {y:ab} (h:EN y):0<=mK y/\mK y<=16:=by
 unfold mK;split
 ·exact h.1
 ·decide
theorem tz {n:Int} (hn:1<=n/\n<=5) (y:ab):0<=mJ n y/\mJ n y<=16:=by unfold mJ;split <;> omega
theorem qR (y:ab):0<=mb y/\mb y<=16:=by unfold mb;split <;> decide
theorem oC (y:ab):0<=lD y/\lD y<=16:=by unfold lD;split <;> decide
theorem mS (y:ab):0<=lN y/\lN y<=16:=by unfold lN;split <;> decide
theorem wH (s:ByteArray):0<=(cd s).1/\(cd s).1<=11:=by
 unfold cd;split
 ·exact ⟨Int.le_refl _,by decide⟩
 ·show 0<=(dX s 1 11).1/\(dX s 1 11).1<=11;by_cases h :(dX s 1 11).2=0
  ·have:=Ie h
   omega
  ·have e :(dX s 1 11).1=0:=by
    unfold dX at *;split
    ·rename_i hb;rw [if_pos hb] at h;split
     ·rename_i v hp;rw [hp] at h;simp only at h;by_cases hv:v<1\/11<v
      ·rw [if_pos hv]
      ·rw [if_neg hv] at h;exact absurd rfl h
     ·rfl
    ·rfl
   rw [e];exact ⟨Int.le_refl _,by decide⟩
theorem IV :∀ l:List ByteArray,0<=eb l/\eb l<=11 *(l.length:Int)
 | []=>⟨Int.le_refl _,Int.le_refl _⟩
 | s::l=>by have h1:=wH s;have h2:=IV l;have e:eb (s::l) =(cd s).1+eb l:=rfl;have el :((s::l).length:Int)=l.length+1:=rfl;rw [e,el];omega
def Rw (r:aj) (b:aa.ay) (es:List (List ab)):Bool:=
 au mb (aU es)==bt kV b.Strips&&(au lD (aU es)==bt qj b.Strips&&(bt rz b.Strips==au gJ (aU es) - b.an.Wides - b.an.NoBalls &&
 (b.an.Wides==au mK (aU es)&&(b.an.NoBalls==au (mJ r.NoBall) (aU es)&&(b.an.Byes==au n5 (aU es)&&(b.an.LegByes==au n6 (aU es) &&
 (b.an.Penalties.tmod 5==0&&(b.Total==au gJ (aU es)+b.an.Byes+b.an.LegByes+b.an.Penalties&&b.Wickets==bt qi b.Strips))))))))
theorem Jh {r:aj} {b:aa.ay} {es:List (List ab)} (h1 :∀ x∈b.Boxes,0<=x.Bowler) (h2 :∀ x∈b.Strips,0<=x.Bowler) :
  n4 r b es =(((ml (dM (List.replicate (r.Side.toNat+1) 0) b.Boxes es) b.Strips).drop 1).all (fun v=>v==0)&&Rw r b es):=by
 rw [Qa b.Boxes es b.Strips h1 h2,Bool.and_comm];unfold n4 Rw;simp only [Bool.and_assoc]
end
section
open Go Go.aa Go.RowKit
attribute [local irreducible] Go.aa.DT.sat Go.aa.a8 Go.aa.RT.sat Go.aa.dD
theorem Jt (s:ByteArray) {i:Int} (h0:0<=i) (h1:i<s.size):s.data.toList.drop i.toNat=s.data.getD i.toNat 0::s.data.toList.drop (i+1).toNat:=by
 have hz:s.data.toList.length=s.size:=by rw [Array.length_toList];rfl
 have hn:i.toNat<s.data.toList.length:=by omega
 have e1 :(i+1).toNat=i.toNat+1:=by omega
 rw [List.drop_eq_getElem_cons hn,e1];congr 1;rw [Array.getElem_toList,Array.getD_eq_getD_getElem?,Array.getElem?_eq_getElem (by rw [Array.length_toList] at hn;exact hn)];rfl
def jv (v:Int):Bool:=bif decide (v<0) then true else decide (v>1000000)
abbrev qI1:bl:=cQ [I]
def YT:Den (bj qI1)->List Prop×Den (bj cO):=fun x=>([],(jv x.1,()))
abbrev qLo (f:Nat):bl:=⟨[(0,.h (.slice I)),(1,.c (.fn f [])),(7,.h I),(8,.h I)],[],0⟩
abbrev xLo:List (Lf×bl):= [(.ret,⟨[(4,.h I)],[],0⟩),(.ext 0,⟨[],[],0⟩)]
def Ak (x:List Int×Int×Int×Unit):Prop:=x.2.1=x.1.length/\0<=x.2.2.1/\x.2.2.1<=x.2.1/\x.1.length<=aW
def Mj (x:List Int×Int×Int×Unit):Nat:=(x.2.1 - x.2.2.1).toNat
def mz (x:List Int×Int×Int×Unit):Sum (Int×Unit) Unit:=aa8 (ke jv (x.1.drop x.2.2.1.toNat) x.2.2.1)
abbrev UR (f:Nat):bl:=⟨[(0,.h (.slice I)),(1,.c (.fn f []))],[],0⟩
abbrev Tf:bl:=cQ [I]
def YR (f:Nat):Den (bj (UR f))->List Prop×Den (bj Tf):=fun x=>([],(sr (ke jv x.1 0),()))
def YF (f:Nat):Den (bj (UR f))->List Prop×Den (bj cO):=fun x=>([],(x.1.any jv,()))
def Qt:Den (bj UT)->List Prop×Den (bj cO):=fun x=>([],(x.1.any jv,()))
theorem MA (s:Int) :(a8 (aI [] Tryz.f116) (fun _=>none) Tryz.f116 qI1 cO (s,())).sat fun z_=>z_ =(YT (s,())).2:=by
 refine cast (by kernel_rfl) (?_ :(cond (decide (s<0)) true (decide (s>1000000)),()) =(jv s,()))
 all_goals trivial
def CW:FuncId×dR:=(116,ax KE qI1 cO YT)
theorem F8:aR Tryz.prog KE 116 (ax KE qI1 cO YT):=by
 refine bh (C:=aI [] Tryz.f116) (az (aZ.nil) _) mixed (fn:=Tryz.f116) Tryz.func116 (by kernel_rfl) (by kernel_rfl) (by kernel_rfl) (by kernel_rfl) (by kernel_rfl) (by kernel_rfl) (Λ:=fun _ _=>none) ?_ ?_
 ·exact fun _ _ _ _ _ _ _ _ h=>by cases h
 ·rintro ⟨s,⟨⟩⟩ hw hn
  exact MA s
noncomputable def LZ:Lp:=(⟨0,aI [CW] Tryz.f149,(fun _=>none),(aC Tryz.f149 0),(qLo 116),xLo⟩:Lp)
theorem Zo (xs:List Int) (n:Int) (i:Int) (hi:Ak (xs,n,i,())) :(Go.aa.stepG LZ mz (fun y:Den (bj LZ.q)=>Ak y/\Mj y<Mj (xs,n,i,())) (xs,n,i,())/\Go.aa.bB LZ mz (xs,n,i,())=mz (xs,n,i,())):=by
 refine cast (by kernel_rfl) (?_ :((decide (i<n)=true->(0<=i/\i <(↑xs.length:Int))/\(jv (xs.getD i.toNat (af (Ty.int IntKind.i64)))=true->True)/\(jv (xs.getD i.toNat (af (Ty.int IntKind.i64)))=false->Ak (xs,n,IntKind.i64.wrap (i+1),())/\Mj (xs,n,IntKind.i64.wrap (i+1),())<Mj (xs,n,i,())))/\(decide (i<n)=false->True))/\(cond (decide (i<n)) (cond (jv (xs.getD i.toNat (af (Ty.int IntKind.i64)))) (Sum.inl (i,())) (mz (xs,n,IntKind.i64.wrap (i+1),()))) (Sum.inr ()))=mz (xs,n,i,()));obtain ⟨h1,h2,h3,h4⟩:=hi;simp only at h1 h2 h3 h4;have h5 :(xs.length:Int)<=140737488355328:=by have:xs.length<=140737488355328:=h4;omega
 refine ⟨⟨fun h=>?_,fun _=>trivial⟩,?_⟩
 ·have h:i<n:=of_decide_eq_true h;rw [bE (n:=i+1) (by omega) (by omega)];refine ⟨⟨h2,by omega⟩,fun _=>trivial,fun _=>⟨⟨h1,by simp only;omega,by simp only;omega,h4⟩,by simp only [Mj];omega⟩⟩
 ·by_cases h:i<n
  ·rw [decide_eq_true h,cond_true,bE (n:=i+1) (by omega) (by omega)];have e:xs.drop i.toNat=xs.getD i.toNat (af (Ty.int IntKind.i64))::xs.drop (i+1).toNat:=aY h2 (by omega) _;generalize xs.getD i.toNat (af (Ty.int IntKind.i64))=v at e ⊢;simp only [mz,e,ke];cases jv v <;> rfl
  ·rw [decide_eq_false h,cond_false];simp only [mz];rw [aN (l:=xs) (by omega)];rfl
noncomputable def VI:aw:=aq LZ mz Ak
noncomputable def U9:Nat:=fo (aC Tryz.f149 0)
theorem XH:aJ Tryz.prog 0 Tryz.f149.ntmps (aC Tryz.f149 0) (aq LZ mz Ak):=
 aD LZ (az (.aP F8 rfl .nil) _) mixed (fun b hb S hS=>by cases hS) mz Ak Mj (fun |⟨xs,n,i,⟨⟩⟩,hi=>Zo xs n i hi)
theorem Qd (xs:List Int) (hx:xs.length<=aW) :(a8 (aI [CW] Tryz.f149) (find [(U9,VI)]) Tryz.f149 (UR 116) Tf (xs,())).sat fun z_=>z_ =((YR 116) (xs,())).2:=by
 refine cast (by kernel_rfl) (?_:let r1:Bool:=wV (mz (xs,(↑xs.length:Int),0,()));((cq fun x=>none)/\(↑xs.length:Int) =(↑xs.length:Int)/\(0:Int)<=0/\0<=(↑xs.length:Int)/\xs.length<=aW)/\(r1=true->mV (af (I.prod Ty.unit)) (mz (xs,(↑xs.length:Int),0,())) =(sr (ke jv xs 0),()))/\(r1=false->((-1:Int),()) =(sr (ke jv xs 0),())));intro r1
 clear_value (hr1:r1=_)
 have e:mz (xs,(xs.length:Int),0,())=aa8 (ke jv xs 0):=rfl
 try subst hr1
 rw [e];refine ⟨⟨rfl,rfl,Int.le_refl _,by omega,hx⟩,fun h=>?_,fun h=>?_⟩ <;> cases hf:ke jv xs 0 <;> rw [hf] at h <;> first|rfl|cases h
def Ow:FuncId×dR:=(149,ax KE (UR 116) Tf (YR 116))
theorem SV:aR Tryz.prog KE 149 (ax KE (UR 116) Tf (YR 116)):=by
 refine bh (C:=aI [CW] Tryz.f149) (az (.aP F8 rfl .nil) _) mixed (fn:=Tryz.f149) Tryz.func149 (by kernel_rfl) (by kernel_rfl) (by kernel_rfl) (by kernel_rfl) (by kernel_rfl) (by kernel_rfl) (Λ:=fun x=>find [(U9,VI)]) ?_ ?_
 ·rintro ⟨xs,⟨⟩⟩ hw hn
  exact aL.at (by kernel_rfl) (.cons (by kernel_rfl) (XH) .nil)
 ·rintro ⟨xs,⟨⟩⟩ hw hn
  exact Qd xs (mI (gD hw))
theorem Qb (xs:List Int) :(a8 (aI [Ow] Tryz.f115) (fun _=>none) Tryz.f115 (UR 116) cO (xs,())).sat fun z_=>z_ =((YF 116) (xs,())).2:=by
 refine cast (by kernel_rfl) (?_ :(decide (sr (ke jv xs 0)>=0),()) =(xs.any jv,()));have e:=wI (p:=jv) (l:=xs) (i:=0);rw [<-e]
 cases hf:ke jv xs 0 with
 | none=>rfl
 | some k=>
  have:=E3 hf
  simp [this,sr]
def Ov:FuncId×dR:=(115,ax KE (UR 116) cO (YF 116))
theorem SS:aR Tryz.prog KE 115 (ax KE (UR 116) cO (YF 116)):=by
 refine bh (C:=aI [Ow] Tryz.f115) (az (.aP SV rfl .nil) _) mixed (fn:=Tryz.f115) Tryz.func115 (by kernel_rfl) (by kernel_rfl) (by kernel_rfl) (by kernel_rfl) (by kernel_rfl) (by kernel_rfl) (Λ:=fun _ _=>none) ?_ ?_
 ·exact fun _ _ _ _ _ _ _ _ h=>by cases h
 ·rintro ⟨xs,⟨⟩⟩ hw hn
  exact Qb xs
theorem DG (xs:List Int) :(a8 (aI [Ov] Tryz.f65) (fun _=>none) Tryz.f65 UT cO (xs,())).sat fun z_=>z_ =(Qt (xs,())).2:=by refine cast (by kernel_rfl) (?_ :(xs.any jv,()) =(xs.any jv,()));rfl
def xa:FuncId×dR:=(65,ax KE UT cO Qt)
theorem F9:aR Tryz.prog KE 65 (ax KE UT cO Qt):=by
 refine bh (C:=aI [Ov] Tryz.f65) (az (.aP SS rfl .nil) _) mixed (fn:=Tryz.f65) Tryz.func65 (by kernel_rfl) (by kernel_rfl) (by kernel_rfl) (by kernel_rfl) (by kernel_rfl) (by kernel_rfl) (Λ:=fun _ _=>none) ?_ ?_
 ·exact fun _ _ _ _ _ _ _ _ h=>by cases h
 ·rintro ⟨xs,⟨⟩⟩ hw hn
  exact DG xs
end
section
open Go Go.aa Go.RowKit Go.Shelf
attribute [local irreducible] Go.aa.DT.sat Go.aa.a8 Go.aa.RT.sat Go.aa.dD
def Fu:Go.Shelf.Ren:=⟨fun|103=>151|210=>182|206=>219|n=>n,fun|9=>9|4=>4|24=>218|3=>3|n=>n,fun|n=>n⟩
theorem Sj:Go.Proofs.Lays.n103 Tryz.prog Fu where
 mixed:=by kernel_rfl
 f103:=Tryz.func151.trans (congrArg some (by kernel_rfl))
 f206:=Tryz.func219.trans (congrArg some (by kernel_rfl))
 f210:=Tryz.func182.trans (congrArg some (by kernel_rfl))
 t3:=Tryz.underlying3
 a3:=Tryz.isAgg3
 z3:=Tryz.sizeOf3
 v3:=Tryz.zeroValue3
 t4:=Tryz.underlying4
 a4:=Tryz.isAgg4
 z4:=Tryz.sizeOf4
 v4:=Tryz.zeroValue4
 t9:=Tryz.underlying9
 a9:=Tryz.isAgg9
 z9:=Tryz.sizeOf9
 v9:=Tryz.zeroValue9
 t24:=Tryz.underlying218
 a24:=Tryz.isAgg218
 z24:=Tryz.sizeOf218
 v24:=Tryz.zeroValue218
abbrev Ym:Ty:= .prod .str (.prod .str .unit)
def QA:Den Ym->mL:=fun x=>⟨[],.tup [.str (Ld x.1 x.2.1),.bool (Fg x.1 x.2.1)],[]⟩
def kg:FuncId×dR:=(151,bq KE Ym QA)
def Qs:Den (bj MY)->List Prop×Den (bj mr):=fun x=>([],(dp x.1,()))
abbrev Rm:Ty:= .nm .ab
def Ib (x:ab):Prop:=Lv x/\k3 x.kind 119 110/\k3 x.mark 87 82
def Qw:Den (bj (cQ [Rm]))->List Prop×Den (bj mr):=fun x=>([Ib x.1],(jn x.1,()))
abbrev MX:bl:=cQ [.str]
abbrev Te:bl:=cQ [I,.str]
def sDg:Den (bj MX)->List Prop×Den (bj Te):=fun x=>([],((dgZ x.1).1,(dgZ x.1).2,()))
abbrev qDg:bl:=⟨[(0,.h .str),(6,.h I),(7,.h I)],[],0⟩
abbrev xDg:List (Lf×bl):= [(.ext 0,⟨[(0,.h .str),(6,.h I),(7,.h I)],[],0⟩)]
abbrev TDg:Type:=ByteArray×Int×Int×Unit
def qw:TDg->TDg
 |(s,n,i,_)=>(s,(gI s n i).1,(gI s n i).2,())
def zZ:TDg->Prop
 |(s,n,i,_)=>(0<=i/\i<=6/\i<=(s.size:Int))/\0<=n/\n<10 ^ i.toNat
def OY:TDg->Nat
 |(_,_,i,_)=>(6 - i).toNat
def kq (r:aj):Prop:=(1<=r.Wide/\r.Wide<=5)/\(1<=r.NoBall/\r.NoBall<=5)
def G9 (r:aj) (x:ab):Bool:=Ea (x.kind,x.charge - fB r.Wide r.NoBall x.kind,x.byes,x.leg,x.mark)
abbrev qER:bl:=cQ [Rm,.nm .aj]
abbrev Kg:bl:=cQ [.bool]
def YW:Den (bj qER)->List Prop×Den (bj Kg):=fun x=>([kq x.2.1,Lv x.1],(G9 x.2.1 x.1,()))
abbrev qRS:bl:=cQ [.nm .aj,.str]
abbrev Ta:bl:=cQ [Rm,.bool]
def Qv:Den (bj qRS)->List Prop×Den (bj Ta):=fun x=>([kq x.1],(jx x.2.1.data.toList,MW x.1.Wide x.1.NoBall x.2.1.data.toList,()))
abbrev Tc:bl:=cQ [I,.bool]
def YO:Den (bj MX)->List Prop×Den (bj Tc):=fun x=>([],((cd x.1).1,(cd x.1).2,()))
theorem oS:aR Tryz.prog KE 151 (bq KE Ym QA):=by
 refine s7 Tryz.func151 (by kernel_rfl) (by kernel_rfl) (fun _=>⟨rfl,rfl⟩) (fun x av w E hw hn hg hav=>?_) (fun _ _=>rfl);obtain ⟨s,sep,⟨⟩⟩:=x;obtain ⟨a,r,rfl,⟨rfl,hs1⟩,h1⟩:=eE hav;obtain ⟨a,r,rfl,⟨rfl,hs2⟩,h2⟩:=eE h1;have h5:r=[]:=by cases r with|nil=>rfl|cons=>simp [fq,ai] at h2
 subst h5;refine (Any.strings_CutPrefix Sj s sep w).mono fun e w' ⟨he,hw'⟩=>⟨_,he,by rw [hw'];exact dA.refl _ _,fun E'=>?_⟩
 have:=Le s sep
 exact ⟨_,rfl,⟨rfl,Nat.le_trans this hs1⟩,rfl,trivial⟩
theorem ZN {k:Nat} (h:k<=5) :(10:Int) ^ k<=100000:=by
 have:k=0\/k=1\/k=2\/k=3\/k=4\/k=5:=by omega
 rcases this with rfl|rfl|rfl|rfl|rfl|rfl <;> decide
theorem ack {n:Int} (h0:0<=n) (h1:n<256):IntKind.u8.wrap n=n:=by simp only [IntKind.wrap,IntKind.bits,IntKind.signed];simp;omega
theorem DE (n:Int) :(a8 (aI [AI] Tryz.f111) (fun _=>none) Tryz.f111 MY mr (n,())).sat fun z_=>z_ =(Qs (n,())).2:=by refine cast (by kernel_rfl) (?_ :((n==0)=true->(ByteArray.mk #[46],()) =(dp n,()))/\((n==0)=false->(gU n,()) =(dp n,())));exact ⟨fun h=>by unfold dp;rw [h];rfl,fun h=>by unfold dp;rw [h];rfl⟩
def w8:FuncId×dR:=(111,ax KE MY mr Qs)
theorem F6:aR Tryz.prog KE 111 (ax KE MY mr Qs):=by
 refine bh (C:=aI [AI] Tryz.f111) (az (.aP Ir rfl .nil) _) mixed (fn:=Tryz.f111) Tryz.func111 (by kernel_rfl) (by kernel_rfl) (by kernel_rfl) (by kernel_rfl) (by kernel_rfl) (by kernel_rfl) (Λ:=fun _ _=>none) ?_ ?_
 ·exact fun _ _ _ _ _ _ _ _ h=>by cases h
 ·rintro ⟨n,⟨⟩⟩ hw hn
  exact DE n
theorem DH (x:ab) (hk:Ib x) :(a8 (aI [w8] Tryz.f58) (fun _=>none) Tryz.f58 (cQ [Rm]) mr (x,())).sat fun z_=>z_ =(Qw (x,())).2:=by
 refine cast (by kernel_rfl) (?_:let r1:Bool:=decide (x.3>0);let r2:Bool:=decide (x.4>0);let r3:ByteArray:=ByteArray.mk #[98]++dp x.3;let r4:ByteArray:=ByteArray.mk #[108]++dp x.4;let r5:ByteArray:=cond (x.1 != 0) (Utf8.encode (IntKind.i32.wrap x.1)++dp x.2) (dp x.2);let r6:ByteArray:=cond r1 (r5++r3) r5;let r7:ByteArray:=cond r2 (r6++r4) r6;(((x.1 != 0)=true->(Utf8.encode (IntKind.i32.wrap x.1)).size +(dp x.2).size<=aW/\True)/\((x.1 != 0)=false->True))/\(true=true->((r1=true->(ByteArray.mk #[98]).size +(dp x.3).size<=aW/\r5.size+r3.size<=aW/\True)/\(r1=false->True))/\(true=true->((r2=true->(ByteArray.mk #[108]).size +(dp x.4).size<=aW/\r6.size+r4.size<=aW/\True)/\(r2=false->True))/\(true=true->(((x.5 != 0)=true->r7.size +(Utf8.encode (IntKind.i32.wrap x.5)).size<=aW/\True)/\((x.5 != 0)=false->True))/\(true=true->(cond (x.5 != 0) (r7++Utf8.encode (IntKind.i32.wrap x.5)) r7,()) =(jn x,()))))));intro r1 r2 r3 r4 r5 r6 r7
 clear_value (hr1:r1=_) (hr2:r2=_) (hr3:r3=_) (hr4:r4=_) (hr5:r5=_) (hr6:r6=_) (hr7:r7=_)
 have one :∀ c:UInt8,(ByteArray.mk #[c]).size=1:=fun _=>rfl;have hL :(1000:Nat)<=aW:=by decide
 obtain ⟨hf,hk1,hk2⟩:=hk;have zc:=fM hf.1;have zb:=fM hf.2.1;have zl:=fM hf.2.2;have ck:=rD hk1 (.inl ⟨rfl,rfl⟩);have cm:=rD hk2 (.inr ⟨rfl,rfl⟩);unfold Hd at ck cm;have e5:r5=MN x:=by rw [hr5];unfold MN Hd;cases x.kind != 0 <;> rfl
 have e6:r6=MO x:=by rw [hr6,hr1,e5,hr3];unfold MO;cases decide (x.byes>0) <;> rfl
 have e7:r7=KA x:=by rw [hr7,hr2,e6,hr4];unfold KA;cases decide (x.leg>0) <;> rfl
 obtain ⟨s1,s2,s3,s4⟩:=Ub hf hk1 hk2;rw [<-e5] at s1;rw [<-e6] at s2;rw [<-e7] at s3;have z3:r3.size<=22:=by rw [hr3,ByteArray.size_append,one];omega
 have z4:r4.size<=22:=by rw [hr4,ByteArray.size_append,one];omega
 refine ⟨⟨fun _=>⟨by omega,trivial⟩,fun _=>trivial⟩,fun _=>⟨⟨fun _=>⟨by rw [one];omega,by omega,trivial⟩,fun _=>trivial⟩,fun _=>⟨⟨fun _=>⟨by rw [one];omega,by omega,trivial⟩,fun _=>trivial⟩,fun _=>⟨⟨fun _=>⟨by omega,trivial⟩,fun _=>trivial⟩,fun _=>?_⟩⟩⟩⟩;rw [e7];unfold jn Hd;cases x.mark != 0 <;> rfl
def xb:FuncId×dR:=(58,ax KE (cQ [Rm]) mr Qw)
theorem Gb:aR Tryz.prog KE 58 (ax KE (cQ [Rm]) mr Qw):=by
 refine bh (C:=aI [w8] Tryz.f58) (az (.aP F6 rfl .nil) _) mixed (fn:=Tryz.f58) Tryz.func58 (by kernel_rfl) (by kernel_rfl) (by kernel_rfl) (by kernel_rfl) (by kernel_rfl) (by kernel_rfl) (Λ:=fun _ _=>none) ?_ ?_
 ·exact fun _ _ _ _ _ _ _ _ h=>by cases h
 ·rintro ⟨x,⟨⟩⟩ hw hn
  exact DH x (hn _ List.mem_cons_self)
noncomputable def LO:Lp:=(⟨0,aI [kg] Tryz.f150,(fun _=>none),(aC Tryz.f150 0),qDg,xDg⟩:Lp)
theorem Ze (s:ByteArray) (n:Int) (i:Int) (hi:zZ (s,n,i,())) :(Go.aa.stepG LO qw (fun y:Den (bj LO.q)=>zZ y/\OY y<OY (s,n,i,())) (s,n,i,())/\Go.aa.bB LO qw (s,n,i,())=qw (s,n,i,())):=by
 refine cast (by kernel_rfl) (?_:let r1:Int:=(↑(s.1.getD i.toNat (0:UInt8)).toNat:Int);let r2:Bool:=decide (i <(↑s.size:Int));let r3:Bool:=decide (i<6);let r4:Bool:=decide (r1>=48);let r5:Bool:=cond r2 (cond r3 (cond r4 (decide (r1<=57)) false) false) false;let r6:ByteArray×Int×Int×PUnit:=cond r5 (qw (s,IntKind.i64.wrap (IntKind.i64.wrap (10*n)+IntKind.i64.wrap (IntKind.u8.wrap (r1 - 48))),IntKind.i64.wrap (i+1),())) (s,n,i,());(((r2=true->(r3=true->(0<=i/\i <(↑s.size:Int))/\(r4=true->(0<=i/\i <(↑s.size:Int))/\True)/\(r4=false->True))/\(r3=false->True))/\(r2=false->True))/\(true=true->(r5=true->(0<=i/\i <(↑s.size:Int))/\zZ (s,IntKind.i64.wrap (IntKind.i64.wrap (10*n)+IntKind.i64.wrap (IntKind.u8.wrap (r1 - 48))),IntKind.i64.wrap (i+1),())/\OY (s,IntKind.i64.wrap (IntKind.i64.wrap (10*n)+IntKind.i64.wrap (IntKind.u8.wrap (r1 - 48))),IntKind.i64.wrap (i+1),())<OY (s,n,i,()))/\(r5=false->True)))/\(cond (true&&true&&true&&true) r6 (cond true r6 (cond r2 (cond r3 (cond r4 (af (Ty.str.prod (I.prod (I.prod Ty.unit)))) (af (Ty.str.prod (I.prod (I.prod Ty.unit))))) (af (Ty.str.prod (I.prod (I.prod Ty.unit))))) (af (Ty.str.prod (I.prod (I.prod Ty.unit)))))))=qw (s,n,i,()));intro r1 r2 r3 r4 r5 r6
 clear_value (hr1:r1=_) (hr2:r2=_) (hr3:r3=_) (hr4:r4=_) (hr5:r5=_) (hr6:r6=_)
 obtain ⟨⟨h0,h6,hs⟩,hn0,hn1⟩:=hi;have h0:0<=i:=h0;have h6:i<=6:=h6;have hs:i<=(s.size:Int):=hs;have hn0:0<=n:=hn0;have hn1:n<10 ^ i.toNat:=hn1;have e5:r5 =(r2&&(r3&&(r4&&decide (r1<=57)))):=by rw [hr5];cases r2 <;> cases r3 <;> cases r4 <;> rfl
 cases hc:r5 with
 | true=>
  have hc':=hc;rw [e5,hr2,hr3,hr4] at hc';simp only [Bool.and_eq_true,decide_eq_true_eq] at hc';obtain ⟨c1,c2,c3,c4⟩:=hc';have hb:n<100000:=Int.lt_of_lt_of_le hn1 (ZN (by omega));have w1:IntKind.u8.wrap (r1 - 48)=r1 - 48:=ack (by omega) (by omega);have w2:IntKind.i64.wrap (r1 - 48)=r1 - 48:=bE (by omega) (by omega);have w3:IntKind.i64.wrap (10*n)=10*n:=bE (by omega) (by omega);have w4:IntKind.i64.wrap (10*n +(r1 - 48))=10*n +(r1 - 48):=bE (by omega) (by omega);have w5:IntKind.i64.wrap (i+1)=i+1:=bE (by omega) (by omega)
  have key:qw (s,n,i,())=qw (s,10*n +(r1 - 48),i+1,()):=by
   have e:gI s n i=gI s (10*n +(r1 - 48)) (i+1):=by
    unfold gI;have ek :(6 - i).toNat =(6 - (i+1)).toNat+1:=by omega
    rw [ek,Jt s h0 c1]
    have hd :(decide (48<=(s.data.getD i.toNat 0).toNat)&&decide ((s.data.getD i.toNat 0).toNat<=57))=true:=by
     have a1 :(48:Int)<=((s.data.getD i.toNat 0).toNat:Int):=by rw [<-hr1];exact c3
     have a2 :((s.data.getD i.toNat 0).toNat:Int)<=57:=by rw [<-hr1];exact c4
     rw [decide_eq_true (by omega),decide_eq_true (by omega)];rfl
    have hst :∀ k l,wc (k+1) n (s.data.getD i.toNat 0::l)=wc k (10*n +(r1 - 48)) l:=fun k l=>by rw [wc,if_pos hd,hr1]
    rw [hst]
   show (s,(gI s n i).1,(gI s n i).2,()) =(s,(gI s (10*n +(r1 - 48)) (i+1)).1,(gI s (10*n +(r1 - 48)) (i+1)).2,());rw [<-e]
  rw [hc] at hr6;rw [w1,w2,w3,w4,w5] at hr6 ⊢;have hp :(10:Int) ^ (i+1).toNat=10 ^ i.toNat*10:=by rw [show (i+1).toNat=i.toNat+1 by omega,Int.pow_succ]
  refine ⟨⟨⟨fun _=>⟨fun _=>⟨⟨h0,c1⟩,fun _=>⟨⟨h0,c1⟩,trivial⟩,fun _=>trivial⟩,fun _=>trivial⟩,fun _=>trivial⟩,fun _=>⟨fun _=>⟨⟨h0,c1⟩,⟨⟨?_,?_,?_⟩,?_,?_⟩,?_⟩,fun z=>Bool.noConfusion z⟩⟩,?_⟩
  ·show 0<=i+1;omega
  ·show i+1<=6;omega
  ·show i+1<=(s.size:Int);omega
  ·show 0<=10*n +(r1 - 48);omega
  ·show 10*n +(r1 - 48)<10 ^ (i+1).toNat;rw [hp];omega
  ·show (6 - (i+1)).toNat <(6 - i).toNat;omega
  ·rw [key];exact hr6
 | false=>
  have hc':=hc;rw [e5,hr2,hr3,hr4] at hc'
  have key:gI s n i =(n,i):=by
   unfold gI;by_cases c2:i<6
   ·have ek :(6 - i).toNat =(6 - (i+1)).toNat+1:=by omega
    rw [ek];by_cases c1:i <(s.size:Int)
    ·rw [Jt s h0 c1]
     have hd :¬(decide (48<=(s.data.getD i.toNat 0).toNat)&&decide ((s.data.getD i.toNat 0).toNat<=57))=true:=fun h=>by rw [decide_eq_true c1,decide_eq_true c2,hr1] at hc';simp only [Bool.and_eq_true,decide_eq_true_eq] at h;rw [decide_eq_true (by omega),decide_eq_true (by omega)] at hc';exact Bool.noConfusion hc'
     have hst :∀ k l,wc (k+1) n (s.data.getD i.toNat 0::l) =(n,s.data.getD i.toNat 0::l):=fun k l=>by rw [wc,if_neg hd]
     rw [hst,<-Jt s h0 c1,List.length_drop,ki];show (n,_) =(n,i);congr 1;omega
    ·rw [List.drop_eq_nil_of_le (by rw [ki];omega)];show (n,(s.size:Int) - ((0:Nat):Int)) =(n,i);congr 1;omega
   ·have ek :(6 - i).toNat=0:=by omega
    rw [ek];show (n,(s.size:Int) - ((s.data.toList.drop i.toNat).length:Int)) =(n,i);rw [List.length_drop,ki];congr 1;omega
  rw [hc] at hr6;refine ⟨⟨⟨fun a=>⟨fun b=>⟨⟨h0,?_⟩,fun _=>⟨⟨h0,?_⟩,trivial⟩,fun _=>trivial⟩,fun _=>trivial⟩,fun _=>trivial⟩,fun _=>⟨fun z=>Bool.noConfusion z,fun _=>trivial⟩⟩,?_⟩
  ·rw [hr2] at a;exact of_decide_eq_true a
  ·rw [hr2] at a;exact of_decide_eq_true a
  ·show _ =(s,(gI s n i).1,(gI s n i).2,());rw [key];exact hr6
noncomputable def VA:aw:=aq LO qw zZ
noncomputable def U0:Nat:=fo (aC Tryz.f150 0)
theorem Xw:aJ Tryz.prog 0 Tryz.f150.ntmps (aC Tryz.f150 0) (aq LO qw zZ):=
 aD LO (az (.aP oS rfl .nil) _) mixed (fun b hb S hS=>by cases hS) qw zZ OY (fun |⟨s,n,i,⟨⟩⟩,hi=>Ze s n i hi)
theorem GI (s:ByteArray) :(a8 (aI [kg] Tryz.f150) (find [(U0,VA)]) Tryz.f150 MX Te (s,())).sat fun z_=>z_ =(sDg (s,())).2:=by
 refine cast (by kernel_rfl) (?_:let r1:Bool:=Fg s (ByteArray.mk #[46]);let r2:Int:=(↑s.size:Int) - (↑(wc ((6:Int) - 0).toNat 0 (List.drop (Int.toNat 0) s.1.1)).2.length:Int);(r1=true->(0,Ld s (ByteArray.mk #[46]),()) =((gH s.1.1).1,vd (gH s.1.1).2,()))/\(r1=false->((cq fun x=>none)/\((0:Int)<=0/\(0:Int)<=6/\0<=(↑s.size:Int))/\(0:Int)<=0/\(0:Int)<10 ^ Int.toNat 0)/\(0<=r2/\r2<=(↑s.size:Int)/\(↑s.size:Int)<=(↑s.size:Int))/\((wc ((6:Int) - 0).toNat 0 (List.drop (Int.toNat 0) s.1.1)).1,s.extract r2.toNat (↑s.size:Int).toNat,()) =((gH s.1.1).1,vd (gH s.1.1).2,())));intro r1 r2
 clear_value (hr1:r1=_) (hr2:r2=_)
 have hz:=ki s;have hr:=NO s 0 (i:=0) (Int.le_refl _) (by omega);have e2:r2 =(gI s 0 0).2:=hr2;refine ⟨fun h=>?_,fun h=>⟨⟨rfl,⟨Int.le_refl _,by decide,by omega⟩,Int.le_refl _,by decide⟩,⟨by omega,by omega,Int.le_refl _⟩,?_⟩⟩
 ·rw [hr1,oK] at h;have ec:=NG s 46;rw [oK] at ec;show ((0:Int),Ld s ⟨#[46]⟩,()) =((gH s.data.toList).1,vd (gH s.data.toList).2,())
  cases hl:s.data.toList with
  | nil=>rw [hl] at h;cases h
  | cons c l=>
   rw [hl] at h ec;have h :(c==46)=true:=h;rw [ec];show ((0:Int),(if (c==46)=true then _ else _),())=_;rw [if_pos h];have hd:gH (c::l) =(0,l):=by show (if (c==46)=true then (0,l) else wc 6 0 (c::l))=_;rw [if_pos h]
   rw [hd];rfl
 ·have hd:gH s.data.toList=wc 6 0 s.data.toList:=by
   rw [hr1,oK] at h
   cases hl:s.data.toList with
   | nil=>rfl
   | cons c l=>rw [hl] at h;have h :(c==46)=false:=h;show (if (c==46)=true then (0,l) else wc 6 0 (c::l))=_;rw [if_neg (by rw [h];exact Bool.false_ne_true)]
  show ((wc 6 0 s.data.toList).1,s.extract r2.toNat (s.size:Int).toNat,()) =((gH s.data.toList).1,vd (gH s.data.toList).2,());rw [hd,e2,Int.toNat_natCast,hr.2];rfl
def AD:FuncId×dR:=(150,ax KE MX Te sDg)
theorem Ij:aR Tryz.prog KE 150 (ax KE MX Te sDg):=by
 refine bh (C:=aI [kg] Tryz.f150) (az (.aP oS rfl .nil) _) mixed (fn:=Tryz.f150) Tryz.func150 (by kernel_rfl) (by kernel_rfl) (by kernel_rfl) (by kernel_rfl) (by kernel_rfl) (by kernel_rfl) (Λ:=fun x=>find [(U0,VA)]) ?_ ?_
 ·rintro ⟨s,⟨⟩⟩ hw hn
  exact aL.at (by kernel_rfl) (.cons (by kernel_rfl) (Xw) .nil)
 ·rintro ⟨s,⟨⟩⟩ hw hn
  exact GI s
theorem IY (x:ab) (r:aj) (hr:kq r) (hx:Lv x) :(a8 (aI [] Tryz.f152) (fun _=>none) Tryz.f152 qER Kg (x,r,())).sat fun z_=>z_ =(YW (x,r,())).2:=by
 refine cast (by kernel_rfl) (?_:let r1:Int:=cond (x.5==82) 7 11;let r2:Bool:=decide (IntKind.i64.wrap (x.3+x.4)>0);let r3:Int:=cond (x.1==119) (IntKind.i64.wrap (x.2 - r.7)) (cond (x.1==110) (IntKind.i64.wrap (x.2 - r.8)) x.2);let r4:Bool:=r3==0;let r5:Bool:=cond (decide (r3<0)) true (cond (decide (r3>r1)) true (decide (IntKind.i64.wrap (x.3+x.4)>r1)));(r5=true->(false,()) =(G9 r x,()))/\(r5=false->(r2=true->(cond r4 (cond (x.1 != 119) (x.5 != 87) false) false,()) =(G9 r x,()))/\(r2=false->((x.5==87)=true->(cond r4 (x.1 != 110) false,()) =(G9 r x,()))/\((x.5==87)=false->(true,()) =(G9 r x,())))));intro r1 r2 r3 r4 r5
 clear_value (hr1:r1=_) (hr2:r2=_) (hr3:r3=_) (hr4:r4=_) (hr5:r5=_)
 obtain ⟨hw,hv⟩:=hr;obtain ⟨⟨a0,a1⟩,⟨b0,b1⟩,⟨c0,c1⟩⟩:=hx;have ew:IntKind.i64.wrap (x.byes+x.leg)=x.byes+x.leg:=bE (by omega) (by omega)
 have e3:r3=x.charge - fB r.Wide r.NoBall x.kind:=by
  rw [hr3];unfold fB;cases x.kind==119
  ·cases x.kind==110
   ·show x.charge=x.charge - 0;omega
   ·exact bE (by omega) (by omega)
  ·exact bE (by omega) (by omega)
 rw [ew] at hr2 hr5;rw [e3] at hr4 hr5;unfold G9 Ea Ry FG TF;generalize hG:x.charge - fB r.Wide r.NoBall x.kind=g at *;simp only;have e1:r1=if x.mark==82 then 7 else 11:=by rw [hr1];cases x.mark==82 <;> rfl
 rw [<-e1];have e5 :(decide (g<0) ||(decide (g>r1)||decide (x.byes+x.leg>r1)))=r5:=by rw [hr5];cases decide (g<0) <;> cases decide (g>r1) <;> rfl
 rw [e5,<-hr2,<-hr4];refine ⟨fun h=>?_,fun h=>⟨fun h2=>?_,fun h2=>⟨fun h6=>?_,fun h6=>?_⟩⟩⟩
 ·rw [h];rfl
 ·rw [h,h2];cases r4 <;> cases x.kind != 119 <;> rfl
 ·rw [h,h2,h6];cases r4 <;> rfl
 ·rw [h,h2,h6];rfl
def Fl:FuncId×dR:=(152,ax KE qER Kg YW)
theorem Mp:aR Tryz.prog KE 152 (ax KE qER Kg YW):=by
 refine bh (C:=aI [] Tryz.f152) (az (aZ.nil) _) mixed (fn:=Tryz.f152) Tryz.func152 (by kernel_rfl) (by kernel_rfl) (by kernel_rfl) (by kernel_rfl) (by kernel_rfl) (by kernel_rfl) (Λ:=fun _ _=>none) ?_ ?_
 ·exact fun _ _ _ _ _ _ _ _ h=>by cases h
 ·rintro ⟨x,r,⟨⟩⟩ hw hn
  exact IY x r (hn _ List.mem_cons_self) (hn _ (List.mem_cons_of_mem _ List.mem_cons_self))
theorem MB (r:aj) (s:ByteArray) (hr:kq r) :(a8 (aI [AD,kg,xb,Fl] Tryz.f117) (fun _=>none) Tryz.f117 qRS Ta (r,s,())).sat fun z_=>z_ =(Qv (r,s,())).2:=by
 refine cast (by kernel_rfl) (?_:let r1:Bool:=!s.toList ==(ByteArray.mk #[]).toList;let r2:Int:=(↑(s.1.getD (Int.toNat 0) (0:UInt8)).toNat:Int);let r3:Bool:=r2==119;let r4:Bool:=cond r1 (cond r3 true (r2==110)) false;let r5:Int:=cond r4 0 0;let r6:ByteArray:=vd (gH (cond r4 (s.extract (Int.toNat 1) (↑s.size:Int).toNat) s).1.1).2;let r7:Int:=cond r4 r2 0;let r8:Bool:=Fg r6 (ByteArray.mk #[98]);let r9:Bool:=Fg r6 (ByteArray.mk #[108]);let r10:Int:=cond r9 r5 r5;let r11:Int:=cond r8 (gH (Lib.trimPrefix (gH (cond r4 (s.extract (Int.toNat 1) (↑s.size:Int).toNat) s).1.1).2 [(98:UInt8)])).1 r10;let r12:Int:=cond r8 r5 (cond r9 (gH (Lib.trimPrefix (gH (cond r4 (s.extract (Int.toNat 1) (↑s.size:Int).toNat) s).1.1).2 [(108:UInt8)])).1 r5);let r13:Int:=cond r8 (gH (cond r4 (s.extract (Int.toNat 1) (↑s.size:Int).toNat) s).1.1).1 (cond r9 (gH (cond r4 (s.extract (Int.toNat 1) (↑s.size:Int).toNat) s).1.1).1 (gH (cond r4 (s.extract (Int.toNat 1) (↑s.size:Int).toNat) s).1.1).1);let r14:Int:=cond r8 r7 (cond r9 r7 r7);let r15:ByteArray:=cond r8 (vd (gH (Lib.trimPrefix (gH (cond r4 (s.extract (Int.toNat 1) (↑s.size:Int).toNat) s).1.1).2 [(98:UInt8)])).2) (cond r9 (vd (gH (Lib.trimPrefix (gH (cond r4 (s.extract (Int.toNat 1) (↑s.size:Int).toNat) s).1.1).2 [(108:UInt8)])).2) r6);let r16:Bool:=cond (r15.toList ==(ByteArray.mk #[87]).toList) true (r15.toList ==(ByteArray.mk #[82]).toList);let r17:Int:=cond r16 r11 r11;let r18:Int:=cond r16 r12 r12;let r19:Int:=cond r16 r13 r13;let r20:Int:=cond r16 (↑(r15.1.getD (Int.toNat 0) (0:UInt8)).toNat:Int) (cond r8 r5 r10);let r21:Int:=cond r16 r14 r14;let r22:ab:=ab.mk r21 r19 r17 r18 r20;let r23:Bool:=(jn r22).toList==s.toList;(((r1=true->((0:Int)<=0/\0 <(↑s.size:Int))/\(r3=true->True)/\(r3=false->((0:Int)<=0/\0 <(↑s.size:Int))/\True))/\(r1=false->True))/\(true=true->(r4=true->((0:Int)<=0/\0 <(↑s.size:Int))/\((0:Int)<=1/\1<=(↑s.size:Int)/\(↑s.size:Int)<=(↑s.size:Int))/\True)/\(r4=false->True)))/\(true=true->((r16=true->((0:Int)<=0/\0 <(↑r15.size:Int))/\True)/\(r16=false->True))/\(true=true->(Ib r22/\(r23=true->kq r/\Lv r22/\True)/\(r23=false->True))/\(true=true->(ab.mk (cond r23 r21 r21) (cond r23 r19 r19) (cond r23 r17 r17) (cond r23 r18 r18) (cond r23 r20 r20),cond r23 (G9 r r22) false,()) =(jx s.1.1,MW r.7 r.8 s.1.1,())))));intro r1 r2 r3 r4 r5 r6 r7 r8 r9 r10 r11 r12 r13 r14 r15 r16 r17 r18 r19 r20 r21 r22 r23
 clear_value (hr1:r1=_) (hr2:r2=_) (hr3:r3=_) (hr4:r4=_) (hr5:r5=_) (hr6:r6=_) (hr7:r7=_) (hr8:r8=_) (hr9:r9=_) (hr10:r10=_) (hr11:r11=_) (hr12:r12=_) (hr13:r13=_) (hr14:r14=_) (hr15:r15=_) (hr16:r16=_) (hr17:r17=_) (hr18:r18=_) (hr19:r19=_) (hr20:r20=_) (hr21:r21=_) (hr22:r22=_) (hr23:r23=_)
 have hz:=ki s;have eT :((s.size:Int)).toNat=s.size:=Int.toNat_natCast _
 have main :(bif r4 then s.extract (Int.toNat (1:Int)) (s.size:Int).toNat else s).data.toList=sK s.data.toList/\r7=Rk s.data.toList/\(r1=true->0<s.size):=by
  cases hl:s.data.toList with
  | nil=>
   have e1:r1=false:=by rw [hr1,dB.2 (show s.data.toList =(ByteArray.mk #[]).data.toList from hl)];rfl
   have e4:r4=false:=by rw [hr4,e1];rfl
   rw [hr7,e4];exact ⟨hl,rfl,fun h=>by rw [e1] at h;cases h⟩
  | cons c u=>
   have hs:0<s.size:=by rw [<-hz,hl];exact Nat.succ_pos _
   have e1:r1=true:=by
    rw [hr1]
    cases hb :(s.toList ==(ByteArray.mk #[]).toList) with
    | false=>rfl
    | true=>
     have:=dB.1 hb
     rw [hl] at this;cases this
   have hc:s.data.getD 0 0=c:=by
    have:=Jt s (i:=0) (Int.le_refl _) (by omega)
    rw [hl] at this;exact (List.cons.inj this).1.symm
   have e2:r2 =(c.toNat:Int):=by rw [hr2];show ((s.data.getD 0 0).toNat:Int)=_;rw [hc]
   have e4:r4 =(c==119||c==110):=by rw [hr4,hr3,e1,e2,show (119:Int) =(((119:UInt8).toNat:Nat):Int) from rfl,show (110:Int) =(((110:UInt8).toNat:Nat):Int) from rfl,V3,V3];cases c==119 <;> rfl
   refine ⟨?_,?_,fun _=>hs⟩
   ·rw [e4];show _=if (c==119||c==110)=true then u else c::u;cases c==119||c==110
    ·exact hl
    ·show (s.extract 1 (s.size:Int).toNat).data.toList=u;rw [eT,EW s (by omega),hl];rfl
   ·rw [hr7,e4,e2];show _=if (c==119||c==110)=true then (c.toNat:Int) else 0;cases c==119||c==110 <;> rfl
 obtain ⟨eS,e7,hpos⟩:=main;have eS :(bif r4 then s.extract (Int.toNat (1:Int)) (s.size:Int).toNat else s).1.1=sK s.1.1:=eS;have e7:r7=Rk s.1.1:=e7;rw [eS] at hr6 hr11 hr12 hr13 hr15;have e5:r5=0:=by rw [hr5];cases r4 <;> rfl
 have e10:r10=0:=by rw [hr10,e5];cases r9 <;> rfl
 have e13:r13 =(gH (sK s.1.1)).1:=by rw [hr13];cases r8 <;> cases r9 <;> rfl
 have e14:r14=Rk s.1.1:=by rw [hr14,e7];cases r8 <;> cases r9 <;> rfl
 rw [e5] at hr12 hr20;rw [e10] at hr11 hr20
 have body:r11=Rh (gH (sK s.1.1)).2/\r12=Ri (gH (sK s.1.1)).2/\r15=vd (Rj (gH (sK s.1.1)).2):=by
  rw [hr11,hr12,hr15,hr8,hr9,oK,oK,hr6];generalize (gH (sK s.1.1)).2=t;show (bif (match t with | []=>false|x::_=>x==98) then _ else _)=_/\(bif (match t with | []=>false|x::_=>x==98) then _ else bif (match t with | []=>false|x::_=>x==108) then _ else _)=_/\(bif (match t with | []=>false|x::_=>x==98) then _ else bif (match t with | []=>false|x::_=>x==108) then _ else _)=_
  cases t with
  | nil=>exact ⟨rfl,rfl,rfl⟩
  | cons c u=>
   unfold Rh Ri Rj;simp only;by_cases h1:c=98
   ·subst h1;rw [G2 _ 98 u rfl];exact ⟨rfl,rfl,rfl⟩
   ·have e1 :(c==98)=false:=by simpa using h1
    rw [e1];by_cases h2:c=108
    ·subst h2;rw [G2 _ 108 u rfl];exact ⟨rfl,rfl,rfl⟩
    ·have e2 :(c==108)=false:=by simpa using h2
     rw [e2];exact ⟨rfl,rfl,rfl⟩
 obtain ⟨e11,e12,e15⟩:=body
 have e16:r16 =(Rj (gH (sK s.1.1)).2==[87]||Rj (gH (sK s.1.1)).2==[82]):=by
  have g :∀ (a:List UInt8) (c:UInt8),((vd a).toList ==(ByteArray.mk #[c]).toList) =(a==[c]):=fun a c=>by rw [Bool.eq_iff_iff,dB,beq_iff_eq];exact Iff.rfl
  rw [hr16,e15,g,g];cases Rj (gH (sK s.1.1)).2==[87] <;> rfl
 have e20:r20=Vp (Rj (gH (sK s.1.1)).2):=by
  rw [hr20,e16,e15];generalize Rj (gH (sK s.1.1)).2=t;unfold Vp;by_cases h1:t=[87]
  ·subst h1;rfl
  ·have e1 :(t==[87])=false:=by simpa using h1
   rw [e1];by_cases h2:t=[82]
   ·subst h2;rfl
   ·have e2 :(t==[82])=false:=by simpa using h2
    rw [e2];show (bif r8 then (0:Int) else 0)=0;cases r8 <;> rfl
 have e21:r21=Rk s.1.1:=by rw [hr21,e14];cases r16 <;> rfl
 have e19:r19 =(gH (sK s.1.1)).1:=by rw [hr19,e13];cases r16 <;> rfl
 have e17:r17=Rh (gH (sK s.1.1)).2:=by rw [hr17,e11];cases r16 <;> rfl
 have e18:r18=Ri (gH (sK s.1.1)).2:=by rw [hr18,e12];cases r16 <;> rfl
 have e22:r22=jx s.1.1:=by rw [hr22,e21,e19,e17,e18,e20];rfl
 have hf:=Yt s.1.1
 have e23:r23 =(MK (jx s.1.1)==s.1.1):=by rw [hr23,e22,Bool.eq_iff_iff,dB,beq_iff_eq,BJ (Dv _) (Dw _)]
 have p16:r16=true->0<r15.size:=fun h=>by rw [e16] at h;rw [e15];show 0 <(Rj (gH (sK s.1.1)).2).toArray.size;rw [List.size_toArray];simp only [Bool.or_eq_true,beq_iff_eq] at h;rcases h with h|h <;> rw [h] <;> exact Nat.succ_pos _
 have q4:r4=true->0<s.size:=fun h=>hpos (by
  rw [hr4] at h
  cases h1:r1 with
  | true=>rfl
  | false=>rw [h1] at h;cases h)
 have hF :(ab.mk (bif r23 then r21 else r21) (bif r23 then r19 else r19) (bif r23 then r17 else r17) (bif r23 then r18 else r18) (bif r23 then r20 else r20))=jx s.1.1:=by rw [<-e22,hr22];cases r23 <;> rfl
 refine ⟨⟨⟨fun h=>⟨⟨Int.le_refl _,by have:=hpos h;omega⟩,fun _=>trivial,fun _=>⟨⟨Int.le_refl _,by have:=hpos h;omega⟩,trivial⟩⟩,fun _=>trivial⟩,fun _=>⟨fun h=>⟨⟨Int.le_refl _,by have:=q4 h;omega⟩,⟨by decide,by have:=q4 h;omega,Int.le_refl _⟩,trivial⟩,fun _=>trivial⟩⟩,fun _=>⟨⟨fun h=>⟨⟨Int.le_refl _,by have:=p16 h;omega⟩,trivial⟩,fun _=>trivial⟩,fun _=>⟨⟨?_,fun _=>⟨hr,?_,trivial⟩,fun _=>trivial⟩,fun _=>?_⟩⟩⟩
 ·rw [e22];exact ⟨hf,Dv _,Dw _⟩
 ·rw [e22];exact hf
 ·rw [hF,e22,e23];unfold MW G9;cases MK (jx s.1.1)==s.1.1 <;> rfl
def JO:FuncId×dR:=(117,ax KE qRS Ta Qv)
theorem Ga:aR Tryz.prog KE 117 (ax KE qRS Ta Qv):=by
 refine bh (C:=aI [AD,kg,xb,Fl] Tryz.f117) (az (.aP Ij rfl (.aP oS rfl (.aP Gb rfl (.aP Mp rfl .nil)))) _) mixed (fn:=Tryz.f117) Tryz.func117 (by kernel_rfl) (by kernel_rfl) (by kernel_rfl) (by kernel_rfl) (by kernel_rfl) (by kernel_rfl) (Λ:=fun _ _=>none) ?_ ?_
 ·exact fun _ _ _ _ _ _ _ _ h=>by cases h
 ·rintro ⟨r,s,⟨⟩⟩ hw hn
  exact MB r s (hn _ List.mem_cons_self)
theorem IX (s:ByteArray) :(a8 (aI [Fq] Tryz.f40) (fun _=>none) Tryz.f40 MX Tc (s,())).sat fun z_=>z_ =(YO (s,())).2:=by
 refine cast (by kernel_rfl) (?_:let r1:Bool:=s.toList ==(ByteArray.mk #[46]).toList;(r1=true->(0,true,()) =((cd s).1,(cd s).2,()))/\(r1=false->((dX s 1 11).1,(dX s 1 11).2==0,()) =((cd s).1,(cd s).2,())));intro r1
 clear_value (hr1:r1=_)
 have e:r1 =(s.toList==NJ.toList):=hr1;rw [e];unfold cd;exact ⟨fun h=>by rw [h];rfl,fun h=>by rw [h];rfl⟩
def mg:FuncId×dR:=(40,ax KE MX Tc YO)
theorem jV:aR Tryz.prog KE 40 (ax KE MX Tc YO):=by
 refine bh (C:=aI [Fq] Tryz.f40) (az (.aP Mr rfl .nil) _) mixed (fn:=Tryz.f40) Tryz.func40 (by kernel_rfl) (by kernel_rfl) (by kernel_rfl) (by kernel_rfl) (by kernel_rfl) (by kernel_rfl) (Λ:=fun _ _=>none) ?_ ?_
 ·exact fun _ _ _ _ _ _ _ _ h=>by cases h
 ·rintro ⟨s,⟨⟩⟩ hw hn
  exact IX s
end
section
open Go Go.aa Go.RowKit
attribute [local irreducible] Go.aa.DT.sat Go.aa.a8 Go.aa.RT.sat Go.aa.dD
def po (l:List aa.aH):Prop:=l.length<=4000/\∀ x∈l,x.Symbols.length<=4000
def xY (l:List aa.ak):Prop:=l.length<=4000/\∀ x∈l,x.Symbols.length<=4000
def qe (b:aa.ay):Prop:=po b.Boxes/\xY b.Strips
def BB:Den (bj yz)->List Prop×Den (bj cO):=fun x=>([qe x.1],(jd x.1,()))
abbrev qM0:bl:=⟨[(1,.c (.ptr 0 0)),(3,.h I),(4,.h I),(10,.h (.slice (.nm .aH))),(11,.h I),(12,.h I)],[(0,.dat (.nm .ay))],1⟩
abbrev xM0:List (Lf×bl):= [(.ext 0,⟨[(1,.c (.ptr 0 0)),(3,.h I),(4,.h I)],[(0,.dat (.nm .ay))],1⟩)]
abbrev TM0:Type:=Int×Int×List aa.aH×Int×Int×aa.ay×Unit
def jG:TM0->Int×Int×aa.ay×Unit
 |(a,c,l,_,i,b,_)=>(a+qK (l.drop i.toNat),c,b,())
def nQ:TM0->Prop
 |(a,_,l,n,i,_)=>(n =(l.length:Int)/\po l)/\(0<=i/\i<=n)/\0<=a/\a<=4000*i
def yT:TM0->Nat
 |(_,_,_,n,i,_)=>(n - i).toNat
abbrev qM1:bl:=⟨[(1,.c (.ptr 0 0)),(3,.h I),(4,.h I),(23,.h (.slice (.nm .ak))),(24,.h I),(25,.h I)],[(0,.dat (.nm .ay))],1⟩
abbrev xM1:List (Lf×bl):= [(.ext 2,⟨[(1,.c (.ptr 0 0)),(3,.h I),(4,.h I)],[(0,.dat (.nm .ay))],1⟩)]
abbrev TM1:Type:=Int×Int×List aa.ak×Int×Int×aa.ay×Unit
def jH:TM1->Int×Int×aa.ay×Unit
 |(c,a,l,_,i,b,_)=>(c,a+bt kV (l.drop i.toNat),b,())
def nR:TM1->Prop
 |(_,a,l,n,i,_)=>(n =(l.length:Int)/\xY l)/\(0<=i/\i<=n)/\0<=a/\a<=4000*i
def yU:TM1->Nat
 |(_,_,_,n,i,_)=>(n - i).toNat
theorem dP {α:Type} {n i:Int} {A:Prop} {R1 R0 R:α} (h1:i<n->A/\R1=R) (h2 :¬ i<n->R0=R) :((decide (i<n)=true->A)/\(decide (i<n)=false->True))/\(bif decide (i<n) then R1 else R0)=R:=by
 by_cases h:i<n
 ·rw [decide_eq_true h];exact ⟨⟨fun _=>(h1 h).1,fun z=>Bool.noConfusion z⟩,(h1 h).2⟩
 ·rw [decide_eq_false h];exact ⟨⟨fun z=>Bool.noConfusion z,fun _=>trivial⟩,h2 h⟩
noncomputable def L0:Lp:=(⟨0,aI [] Tryz.f67,(fun _=>none),(aC Tryz.f67 0),qM0,xM0⟩:Lp)
theorem Zp (a:Int) (c:Int) (l:List aa.aH) (n:Int) (i:Int) (b:aa.ay) (hi:nQ (a,c,l,n,i,b,())) :(Go.aa.stepG L0 jG (fun y:Den (bj L0.q)=>nQ y/\yT y<yT (a,c,l,n,i,b,())) (a,c,l,n,i,b,())/\Go.aa.bB L0 jG (a,c,l,n,i,b,())=jG (a,c,l,n,i,b,())):=by
 refine cast (by kernel_rfl) (?_ :((decide (i<n)=true->(0<=i/\i <(↑l.length:Int))/\nQ (IntKind.i64.wrap (a +(↑(l.getD i.toNat (af (Ty.nm Nm.aH))).3.length:Int)),c,l,n,IntKind.i64.wrap (i+1),b,())/\yT (IntKind.i64.wrap (a +(↑(l.getD i.toNat (af (Ty.nm Nm.aH))).3.length:Int)),c,l,n,IntKind.i64.wrap (i+1),b,())<yT (a,c,l,n,i,b,()))/\(decide (i<n)=false->True))/\(cond (decide (i<n)) (jG (IntKind.i64.wrap (a +(↑(l.getD i.toNat (af (Ty.nm Nm.aH))).3.length:Int)),c,l,n,IntKind.i64.wrap (i+1),b,())) (a,c,b,()))=jG (a,c,l,n,i,b,()));obtain ⟨⟨h1,h1a,h1b⟩,⟨h2,h3⟩,h4,h5⟩:=hi;have h1:n =(l.length:Int):=h1;have h1a:l.length<=4000:=h1a;have h2:0<=i:=h2;have h3:i<=n:=h3;have h4:0<=a:=h4;have h5:a<=4000*i:=h5;refine dP (fun h=>?_) (fun h=>?_)
 ·have e1:IntKind.i64.wrap (i+1)=i+1:=a7 (by omega) (by omega);have hd:l.drop i.toNat=l.getD i.toNat (af (Ty.nm Nm.aH))::l.drop (i+1).toNat:=aY h2 (by omega) _;have hm:l.getD i.toNat (af (Ty.nm Nm.aH))∈l:=List.mem_of_mem_drop (i:=i.toNat) (by rw [hd];exact List.mem_cons_self);have hx:=h1b _ hm;generalize l.getD i.toNat (af (Ty.nm Nm.aH))=x at *;have e2:IntKind.i64.wrap (a +(x.Symbols.length:Int))=a +(x.Symbols.length:Int):=bE (by omega) (by omega);rw [e1,e2];refine ⟨⟨⟨h2,by omega⟩,⟨⟨h1,h1a,h1b⟩,⟨?_,?_⟩,?_,?_⟩,?_⟩,?_⟩
  ·show 0<=i+1;omega
  ·show i+1<=n;omega
  ·show 0<=a +(x.Symbols.length:Int);omega
  ·show a +(x.Symbols.length:Int)<=4000 *(i+1);omega
  ·show (n - (i+1)).toNat <(n - i).toNat;omega
  ·show ((a +(x.Symbols.length:Int)+qK (l.drop (i+1).toNat)),c,b,()) =((a+qK (l.drop i.toNat)),c,b,());rw [hd];show _ =((a +((x.Symbols.length:Int)+qK (l.drop (i+1).toNat))),c,b,());rw [Int.add_assoc]
 ·show (a,c,b,()) =((a+qK (l.drop i.toNat)),c,b,());rw [aN (l:=l) (by omega)];show _ =((a+0),c,b,());rw [Int.add_zero]
noncomputable def VJ:aw:=aq L0 jG nQ
noncomputable def Va:Nat:=fo (aC Tryz.f67 0)
theorem XI:aJ Tryz.prog 0 Tryz.f67.ntmps (aC Tryz.f67 0) (aq L0 jG nQ):=
 aD L0 (az (aZ.nil) _) mixed (fun b hb S hS=>by cases hS) jG nQ yT (fun |⟨a,c,l,n,i,b,⟨⟩⟩,hi=>Zp a c l n i b hi)
noncomputable def L1:Lp:=(⟨0,aI [] Tryz.f67,(fun _=>none),(aC Tryz.f67 1),qM1,xM1⟩:Lp)
theorem Zq (c:Int) (a:Int) (l:List aa.ak) (n:Int) (i:Int) (b:aa.ay) (hi:nR (c,a,l,n,i,b,())) :(Go.aa.stepG L1 jH (fun y:Den (bj L1.q)=>nR y/\yU y<yU (c,a,l,n,i,b,())) (c,a,l,n,i,b,())/\Go.aa.bB L1 jH (c,a,l,n,i,b,())=jH (c,a,l,n,i,b,())):=by
 refine cast (by kernel_rfl) (?_ :((decide (i<n)=true->(0<=i/\i <(↑l.length:Int))/\nR (c,IntKind.i64.wrap (a +(↑(l.getD i.toNat (af (Ty.nm Nm.ak))).2.length:Int)),l,n,IntKind.i64.wrap (i+1),b,())/\yU (c,IntKind.i64.wrap (a +(↑(l.getD i.toNat (af (Ty.nm Nm.ak))).2.length:Int)),l,n,IntKind.i64.wrap (i+1),b,())<yU (c,a,l,n,i,b,()))/\(decide (i<n)=false->True))/\(cond (decide (i<n)) (jH (c,IntKind.i64.wrap (a +(↑(l.getD i.toNat (af (Ty.nm Nm.ak))).2.length:Int)),l,n,IntKind.i64.wrap (i+1),b,())) (c,a,b,()))=jH (c,a,l,n,i,b,()));obtain ⟨⟨h1,h1a,h1b⟩,⟨h2,h3⟩,h4,h5⟩:=hi;have h1:n =(l.length:Int):=h1;have h1a:l.length<=4000:=h1a;have h2:0<=i:=h2;have h3:i<=n:=h3;have h4:0<=a:=h4;have h5:a<=4000*i:=h5;refine dP (fun h=>?_) (fun h=>?_)
 ·have e1:IntKind.i64.wrap (i+1)=i+1:=a7 (by omega) (by omega);have hd:l.drop i.toNat=l.getD i.toNat (af (Ty.nm Nm.ak))::l.drop (i+1).toNat:=aY h2 (by omega) _;have hm:l.getD i.toNat (af (Ty.nm Nm.ak))∈l:=List.mem_of_mem_drop (i:=i.toNat) (by rw [hd];exact List.mem_cons_self);have hx:=h1b _ hm;generalize l.getD i.toNat (af (Ty.nm Nm.ak))=x at *;have e2:IntKind.i64.wrap (a +(x.Symbols.length:Int))=a +(x.Symbols.length:Int):=bE (by omega) (by omega);rw [e1,e2];refine ⟨⟨⟨h2,by omega⟩,⟨⟨h1,h1a,h1b⟩,⟨?_,?_⟩,?_,?_⟩,?_⟩,?_⟩
  ·show 0<=i+1;omega
  ·show i+1<=n;omega
  ·show 0<=a +(x.Symbols.length:Int);omega
  ·show a +(x.Symbols.length:Int)<=4000 *(i+1);omega
  ·show (n - (i+1)).toNat <(n - i).toNat;omega
  ·show (c,(a +(x.Symbols.length:Int)+bt kV (l.drop (i+1).toNat)),b,()) =(c,(a+bt kV (l.drop i.toNat)),b,());rw [hd];show _ =(c,(a +((x.Symbols.length:Int)+bt kV (l.drop (i+1).toNat))),b,());rw [Int.add_assoc]
 ·show (c,a,b,()) =(c,(a+bt kV (l.drop i.toNat)),b,());rw [aN (l:=l) (by omega)];show _ =(c,(a+0),b,());rw [Int.add_zero]
noncomputable def VK:aw:=aq L1 jH nR
noncomputable def Vb:Nat:=fo (aC Tryz.f67 1)
theorem XJ:aJ Tryz.prog 0 Tryz.f67.ntmps (aC Tryz.f67 1) (aq L1 jH nR):=
 aD L1 (az (aZ.nil) _) mixed (fun b hb S hS=>by cases hS) jH nR yU (fun |⟨c,a,l,n,i,b,⟨⟩⟩,hi=>Zq c a l n i b hi)
theorem Mz (b:aa.ay) (hb:qe b) :(a8 (aI [] Tryz.f67) (find [(Va,VJ),(Vb,VK)]) Tryz.f67 yz cO (b,())).sat fun z_=>z_ =(BB (b,())).2:=by
 refine cast (by kernel_rfl) (?_:let r1:Int:=0+qK (List.drop (Int.toNat 0) b.2);let r2:Int:=0+bt kV (List.drop (Int.toNat 0) b.3);let r3:Int:=if (↑b.3.length:Int) >(↑b.2.length:Int) then (↑b.3.length:Int) else (↑b.2.length:Int);let r4:Int:=if r1>r3 then r1 else r3;let r5:Int:=if r2>r4 then r2 else r4;((cq fun x=>none)/\((↑b.2.length:Int) =(↑b.2.length:Int)/\po b.2)/\((0:Int)<=0/\0<=(↑b.2.length:Int))/\(0:Int)<=0/\(0:Int)<=(4000:Int)*0)/\((cq fun x=>none)/\((↑b.3.length:Int) =(↑b.3.length:Int)/\xY b.3)/\((0:Int)<=0/\0<=(↑b.3.length:Int))/\(0:Int)<=0/\(0:Int)<=(4000:Int)*0)/\(decide (r5>4000),()) =(jd b,()));intro r1 r2 r3 r4 r5
 clear_value (hr1:r1=_) (hr2:r2=_) (hr3:r3=_) (hr4:r4=_) (hr5:r5=_)
 obtain ⟨hx,hy⟩:=hb;have e1:r1=qK b.Boxes:=by rw [hr1];exact Int.zero_add _
 have e2:r2=bt kV b.Strips:=by rw [hr2];exact Int.zero_add _
 refine ⟨⟨rfl,⟨rfl,hx⟩,⟨Int.le_refl _,by omega⟩,Int.le_refl _,by decide⟩,⟨rfl,⟨rfl,hy⟩,⟨Int.le_refl _,by omega⟩,Int.le_refl _,by decide⟩,?_⟩
 have:decide (r5>4000)=jd b:=by rw [Bool.eq_iff_iff];simp only [jd,Bool.or_eq_true,decide_eq_true_eq];rw [<-e1,<-e2,hr5,hr4,hr3];split <;> split <;> split <;> omega
 rw [this]
def JN:FuncId×dR:=(67,ax KE yz cO BB)
theorem Pr:aR Tryz.prog KE 67 (ax KE yz cO BB):=by
 refine bh (C:=aI [] Tryz.f67) (az (aZ.nil) _) mixed (fn:=Tryz.f67) Tryz.func67 (by kernel_rfl) (by kernel_rfl) (by kernel_rfl) (by kernel_rfl) (by kernel_rfl) (by kernel_rfl) (Λ:=fun x=>find [(Va,VJ),(Vb,VK)]) ?_ ?_
 ·rintro ⟨b,⟨⟩⟩ hw hn
  exact aL.at (by kernel_rfl) (.cons (by kernel_rfl) (XI) (.cons (by kernel_rfl) (XJ) .nil))
 ·rintro ⟨b,⟨⟩⟩ hw hn
  exact Mz b (hn _ List.mem_cons_self)
noncomputable def L2:Lp:=(⟨0,aI [] Tryz.f30,(fun _=>none),(aC Tryz.f30 0),qM0,xM0⟩:Lp)
theorem Zr (a:Int) (c:Int) (l:List aa.aH) (n:Int) (i:Int) (b:aa.ay) (hi:nQ (a,c,l,n,i,b,())) :(Go.aa.stepG L2 jG (fun y:Den (bj L2.q)=>nQ y/\yT y<yT (a,c,l,n,i,b,())) (a,c,l,n,i,b,())/\Go.aa.bB L2 jG (a,c,l,n,i,b,())=jG (a,c,l,n,i,b,())):=by
 refine cast (by kernel_rfl) (?_ :((decide (i<n)=true->(0<=i/\i <(↑l.length:Int))/\nQ (IntKind.i64.wrap (a +(↑(l.getD i.toNat (af (Ty.nm Nm.aH))).3.length:Int)),c,l,n,IntKind.i64.wrap (i+1),b,())/\yT (IntKind.i64.wrap (a +(↑(l.getD i.toNat (af (Ty.nm Nm.aH))).3.length:Int)),c,l,n,IntKind.i64.wrap (i+1),b,())<yT (a,c,l,n,i,b,()))/\(decide (i<n)=false->True))/\(cond (decide (i<n)) (jG (IntKind.i64.wrap (a +(↑(l.getD i.toNat (af (Ty.nm Nm.aH))).3.length:Int)),c,l,n,IntKind.i64.wrap (i+1),b,())) (a,c,b,()))=jG (a,c,l,n,i,b,()));obtain ⟨⟨h1,h1a,h1b⟩,⟨h2,h3⟩,h4,h5⟩:=hi;have h1:n =(l.length:Int):=h1;have h1a:l.length<=4000:=h1a;have h2:0<=i:=h2;have h3:i<=n:=h3;have h4:0<=a:=h4;have h5:a<=4000*i:=h5;refine dP (fun h=>?_) (fun h=>?_)
 ·have e1:IntKind.i64.wrap (i+1)=i+1:=a7 (by omega) (by omega);have hd:l.drop i.toNat=l.getD i.toNat (af (Ty.nm Nm.aH))::l.drop (i+1).toNat:=aY h2 (by omega) _;have hm:l.getD i.toNat (af (Ty.nm Nm.aH))∈l:=List.mem_of_mem_drop (i:=i.toNat) (by rw [hd];exact List.mem_cons_self);have hx:=h1b _ hm;generalize l.getD i.toNat (af (Ty.nm Nm.aH))=x at *;have e2:IntKind.i64.wrap (a +(x.Symbols.length:Int))=a +(x.Symbols.length:Int):=bE (by omega) (by omega);rw [e1,e2];refine ⟨⟨⟨h2,by omega⟩,⟨⟨h1,h1a,h1b⟩,⟨?_,?_⟩,?_,?_⟩,?_⟩,?_⟩
  ·show 0<=i+1;omega
  ·show i+1<=n;omega
  ·show 0<=a +(x.Symbols.length:Int);omega
  ·show a +(x.Symbols.length:Int)<=4000 *(i+1);omega
  ·show (n - (i+1)).toNat <(n - i).toNat;omega
  ·show ((a +(x.Symbols.length:Int)+qK (l.drop (i+1).toNat)),c,b,()) =((a+qK (l.drop i.toNat)),c,b,());rw [hd];show _ =((a +((x.Symbols.length:Int)+qK (l.drop (i+1).toNat))),c,b,());rw [Int.add_assoc]
 ·show (a,c,b,()) =((a+qK (l.drop i.toNat)),c,b,());rw [aN (l:=l) (by omega)];show _ =((a+0),c,b,());rw [Int.add_zero]
noncomputable def VL:aw:=aq L2 jG nQ
noncomputable def Vc:Nat:=fo (aC Tryz.f30 0)
theorem XK:aJ Tryz.prog 0 Tryz.f30.ntmps (aC Tryz.f30 0) (aq L2 jG nQ):=
 aD L2 (az (aZ.nil) _) mixed (fun b hb S hS=>by cases hS) jG nQ yT (fun |⟨a,c,l,n,i,b,⟨⟩⟩,hi=>Zr a c l n i b hi)
noncomputable def L3:Lp:=(⟨0,aI [] Tryz.f30,(fun _=>none),(aC Tryz.f30 1),qM1,xM1⟩:Lp)
theorem Zs (c:Int) (a:Int) (l:List aa.ak) (n:Int) (i:Int) (b:aa.ay) (hi:nR (c,a,l,n,i,b,())) :(Go.aa.stepG L3 jH (fun y:Den (bj L3.q)=>nR y/\yU y<yU (c,a,l,n,i,b,())) (c,a,l,n,i,b,())/\Go.aa.bB L3 jH (c,a,l,n,i,b,())=jH (c,a,l,n,i,b,())):=by
 refine cast (by kernel_rfl) (?_ :((decide (i<n)=true->(0<=i/\i <(↑l.length:Int))/\nR (c,IntKind.i64.wrap (a +(↑(l.getD i.toNat (af (Ty.nm Nm.ak))).2.length:Int)),l,n,IntKind.i64.wrap (i+1),b,())/\yU (c,IntKind.i64.wrap (a +(↑(l.getD i.toNat (af (Ty.nm Nm.ak))).2.length:Int)),l,n,IntKind.i64.wrap (i+1),b,())<yU (c,a,l,n,i,b,()))/\(decide (i<n)=false->True))/\(cond (decide (i<n)) (jH (c,IntKind.i64.wrap (a +(↑(l.getD i.toNat (af (Ty.nm Nm.ak))).2.length:Int)),l,n,IntKind.i64.wrap (i+1),b,())) (c,a,b,()))=jH (c,a,l,n,i,b,()));obtain ⟨⟨h1,h1a,h1b⟩,⟨h2,h3⟩,h4,h5⟩:=hi;have h1:n =(l.length:Int):=h1;have h1a:l.length<=4000:=h1a;have h2:0<=i:=h2;have h3:i<=n:=h3;have h4:0<=a:=h4;have h5:a<=4000*i:=h5;refine dP (fun h=>?_) (fun h=>?_)
 ·have e1:IntKind.i64.wrap (i+1)=i+1:=a7 (by omega) (by omega);have hd:l.drop i.toNat=l.getD i.toNat (af (Ty.nm Nm.ak))::l.drop (i+1).toNat:=aY h2 (by omega) _;have hm:l.getD i.toNat (af (Ty.nm Nm.ak))∈l:=List.mem_of_mem_drop (i:=i.toNat) (by rw [hd];exact List.mem_cons_self);have hx:=h1b _ hm;generalize l.getD i.toNat (af (Ty.nm Nm.ak))=x at *;have e2:IntKind.i64.wrap (a +(x.Symbols.length:Int))=a +(x.Symbols.length:Int):=bE (by omega) (by omega);rw [e1,e2];refine ⟨⟨⟨h2,by omega⟩,⟨⟨h1,h1a,h1b⟩,⟨?_,?_⟩,?_,?_⟩,?_⟩,?_⟩
  ·show 0<=i+1;omega
  ·show i+1<=n;omega
  ·show 0<=a +(x.Symbols.length:Int);omega
  ·show a +(x.Symbols.length:Int)<=4000 *(i+1);omega
  ·show (n - (i+1)).toNat <(n - i).toNat;omega
  ·show (c,(a +(x.Symbols.length:Int)+bt kV (l.drop (i+1).toNat)),b,()) =(c,(a+bt kV (l.drop i.toNat)),b,());rw [hd];show _ =(c,(a +((x.Symbols.length:Int)+bt kV (l.drop (i+1).toNat))),b,());rw [Int.add_assoc]
 ·show (c,a,b,()) =(c,(a+bt kV (l.drop i.toNat)),b,());rw [aN (l:=l) (by omega)];show _ =(c,(a+0),b,());rw [Int.add_zero]
noncomputable def VM:aw:=aq L3 jH nR
noncomputable def Vd:Nat:=fo (aC Tryz.f30 1)
theorem XL:aJ Tryz.prog 0 Tryz.f30.ntmps (aC Tryz.f30 1) (aq L3 jH nR):=
 aD L3 (az (aZ.nil) _) mixed (fun b hb S hS=>by cases hS) jH nR yU (fun |⟨c,a,l,n,i,b,⟨⟩⟩,hi=>Zs c a l n i b hi)
theorem GM (b:aa.ay) (hb:qe b) :(a8 (aI [] Tryz.f30) (find [(Vc,VL),(Vd,VM)]) Tryz.f30 yz cO (b,())).sat fun z_=>z_ =(BB (b,())).2:=by
 refine cast (by kernel_rfl) (?_:let r1:Int:=0+qK (List.drop (Int.toNat 0) b.2);let r2:Int:=0+bt kV (List.drop (Int.toNat 0) b.3);let r3:Int:=if (↑b.3.length:Int) >(↑b.2.length:Int) then (↑b.3.length:Int) else (↑b.2.length:Int);let r4:Int:=if r1>r3 then r1 else r3;let r5:Int:=if r2>r4 then r2 else r4;((cq fun x=>none)/\((↑b.2.length:Int) =(↑b.2.length:Int)/\po b.2)/\((0:Int)<=0/\0<=(↑b.2.length:Int))/\(0:Int)<=0/\(0:Int)<=(4000:Int)*0)/\((cq fun x=>none)/\((↑b.3.length:Int) =(↑b.3.length:Int)/\xY b.3)/\((0:Int)<=0/\0<=(↑b.3.length:Int))/\(0:Int)<=0/\(0:Int)<=(4000:Int)*0)/\(decide (r5>4000),()) =(jd b,()));intro r1 r2 r3 r4 r5
 clear_value (hr1:r1=_) (hr2:r2=_) (hr3:r3=_) (hr4:r4=_) (hr5:r5=_)
 obtain ⟨hx,hy⟩:=hb;have e1:r1=qK b.Boxes:=by rw [hr1];exact Int.zero_add _
 have e2:r2=bt kV b.Strips:=by rw [hr2];exact Int.zero_add _
 refine ⟨⟨rfl,⟨rfl,hx⟩,⟨Int.le_refl _,by omega⟩,Int.le_refl _,by decide⟩,⟨rfl,⟨rfl,hy⟩,⟨Int.le_refl _,by omega⟩,Int.le_refl _,by decide⟩,?_⟩
 have:decide (r5>4000)=jd b:=by rw [Bool.eq_iff_iff];simp only [jd,Bool.or_eq_true,decide_eq_true_eq];rw [<-e1,<-e2,hr5,hr4,hr3];split <;> split <;> split <;> omega
 rw [this]
def AE:FuncId×dR:=(30,ax KE yz cO BB)
theorem Il:aR Tryz.prog KE 30 (ax KE yz cO BB):=by
 refine bh (C:=aI [] Tryz.f30) (az (aZ.nil) _) mixed (fn:=Tryz.f30) Tryz.func30 (by kernel_rfl) (by kernel_rfl) (by kernel_rfl) (by kernel_rfl) (by kernel_rfl) (by kernel_rfl) (Λ:=fun x=>find [(Vc,VL),(Vd,VM)]) ?_ ?_
 ·rintro ⟨b,⟨⟩⟩ hw hn
  exact aL.at (by kernel_rfl) (.cons (by kernel_rfl) (XK) (.cons (by kernel_rfl) (XL) .nil))
 ·rintro ⟨b,⟨⟩⟩ hw hn
  exact GM b (hn _ List.mem_cons_self)
end
section
open Go Go.aa
def UK (t:Int):Int:=if t==2 then 119 else if t==3 then 110 else 0
def UM (w o:Bool):Int:=if w then 87 else if o then 82 else 0
def kN (t c b l:Int) (w o:Bool):ab:=⟨UK t,c,b,l,UM w o⟩
def Eh (t c b l:Int) (w o:Bool):ag:=⟨jn (kN t c b l w o),t,c,b,l,w,o⟩
def vr (k:Int):Int:=if k==119 then 2 else if k==110 then 3 else 1
def D0 (x:ab):ag:=Eh (vr x.kind) x.charge x.byes x.leg (x.mark==87) (x.mark==82)
def ej (r:aj) (y:Sx):ag:=D0 (sU r.Wide r.NoBall y)
def bQ (r:aj):List ag:=fk.map (ej r)
def aO:List ag->ByteArray->ag×Bool
 | [],_=>(ag.zero,false)
 | x::l,s=>if x.Text.toList==s.toList then (x,true) else aO l s
theorem NQ {x:ab} (hk:k3 x.kind 119 110) (hm:k3 x.mark 87 82):kN (vr x.kind) x.charge x.byes x.leg (x.mark==87) (x.mark==82)=x:=by obtain ⟨k,c,b,l,m⟩:=x;have hk:k=0\/k=119\/k=110:=hk;have hm:m=0\/m=87\/m=82:=hm;rcases hk with rfl|rfl|rfl <;> rcases hm with rfl|rfl|rfl <;> rfl
theorem QP :(fk.all fun y=>(y.1==0 ||(y.1==119||y.1==110))&&(y.2.2.2.2==0 ||(y.2.2.2.2==87||y.2.2.2.2==82)))=true:=by kernel_rfl
theorem yg {y:Sx} (h:y∈fk):k3 y.1 119 110/\k3 y.2.2.2.2 87 82:=by
 have:=List.all_eq_true.1 QP y h
 simpa [k3] using this
theorem QQ {r:aj} {y:Sx} (h:y∈fk) :(ej r y).Text.data.toList=MK (sU r.Wide r.NoBall y):=by obtain ⟨hk,hm⟩:=yg h;show (jn (kN (vr (sU r.Wide r.NoBall y).kind) (sU r.Wide r.NoBall y).charge (sU r.Wide r.NoBall y).byes (sU r.Wide r.NoBall y).leg ((sU r.Wide r.NoBall y).mark==87) ((sU r.Wide r.NoBall y).mark==82))).data.toList=_;rw [NQ hk hm,BJ hk hm]
theorem Jx {r:aj} (s:ByteArray) :∀ ys:List Sx,(∀ y∈ys,y∈fk)->aO (ys.map (ej r)) s=match He r.Wide r.NoBall s.data.toList ys with|some y=>(ej r y,true)|none=>(ag.zero,false)
 | [],_=>rfl
 | y::ys,h=>by
  have ht:=QQ (r:=r) (h y List.mem_cons_self);have ih:=Jx (r:=r) s ys fun z hz=>h z (List.mem_cons_of_mem _ hz)
  have e :((ej r y).Text.toList==s.toList) =(MK (sU r.Wide r.NoBall y)==s.data.toList):=by rw [Bool.eq_iff_iff,dB,beq_iff_eq,ht]
  show (if ((ej r y).Text.toList==s.toList)=true then (ej r y,true) else aO (ys.map (ej r)) s)=_;rw [e,ih,He];cases MK (sU r.Wide r.NoBall y)==s.data.toList <;> rfl
theorem CH (r:aj) (s:ByteArray):aO (bQ r) s=match pb r s with|some x=>(D0 x,true)|none=>(ag.zero,false):=by unfold bQ pb;rw [Jx s fk fun _ h=>h];cases He r.Wide r.NoBall s.data.toList fk <;> rfl
theorem PS {r:aj} {s:ByteArray} {x:ab} (h:pb r s=some x):k3 x.kind 119 110/\k3 x.mark 87 82:=by
 unfold pb at h
 cases hf:He r.Wide r.NoBall s.data.toList fk with
 | none=>rw [hf] at h;cases h
 | some y=>rw [hf] at h;cases h;exact yg (rQ hf).1
def jb (all:List ag) (s:ByteArray):Int:=if (aO all s).1.Typ==1 then 1 else 0
def dx (all:List ag):List ByteArray->Int
 | []=>0
 | s::l=>jb all s+dx all l
def vm (all:List ag) (ov:Int):List aa.aH->Int
 | []=>0
 | x::l=>(if x.Over==ov then dx all x.Symbols else 0)+vm all ov l
theorem NV (r:aj) (s:ByteArray):jb (bQ r) s=zL r s:=by
 unfold jb zL;rw [CH]
 cases h:pb r s with
 | none=>rfl
 | some x=>obtain ⟨hk,_⟩:=PS h;obtain ⟨k,c,b,l,m⟩:=x;have hk:k=0\/k=119\/k=110:=hk;rcases hk with rfl|rfl|rfl <;> rfl
theorem zK (r:aj) :∀ l:List ByteArray,dx (bQ r) l=rP r l
 | []=>rfl
 | s::l=>by show jb (bQ r) s+dx (bQ r) l=zL r s+rP r l;rw [NV,zK r l]
theorem vH (r:aj) (ov:Int) :∀ l:List aa.aH,vm (bQ r) ov l=mh r ov l
 | []=>rfl
 | x::l=>by show (if x.Over==ov then dx (bQ r) x.Symbols else 0)+vm (bQ r) ov l =(if x.Over==ov then rP r x.Symbols else 0)+mh r ov l;rw [zK,vH r ov l]
theorem zJ (all:List ag) :∀ l:List ByteArray,0<=dx all l/\dx all l<=l.length
 | []=>⟨Int.le_refl _,Int.le_refl _⟩
 | s::l=>by
  have ih:=zJ all l;have h:0<=jb all s/\jb all s<=1:=by unfold jb;split <;> decide
  have e:dx all (s::l)=jb all s+dx all l:=rfl;have el :((s::l).length:Int)=l.length+1:=rfl;rw [e,el];omega
def bu (r:aj) (s:ByteArray):ab:=(pb r s).getD ab.zero
def mw (r:aj) (l:List ByteArray):Prop:=∀ s∈l,(pb r s).isSome=true
theorem xJ {r:aj} :∀ {l:List ByteArray},mw r l->jj r l=some (l.map (bu r))
 | [],_=>rfl
 | s::l,h=>by
  have h1:=h s List.mem_cons_self;have h2:=xJ fun z hz=>h z (List.mem_cons_of_mem _ hz);obtain ⟨x,hx⟩:=Option.isSome_iff_exists.1 h1;unfold jj;rw [hx,h2];show some (x::l.map (bu r))=some (bu r s::l.map (bu r))
  have:bu r s=x:=by unfold bu;rw [hx];rfl
  rw [this]
theorem tB {r:aj} {s:ByteArray} (h :(pb r s).isSome=true):aO (bQ r) s =(D0 (bu r s),true):=by
 obtain ⟨x,hx⟩:=Option.isSome_iff_exists.1 h;rw [CH,hx];show (D0 x,true) =(D0 (bu r s),true)
 have:bu r s=x:=by unfold bu;rw [hx];rfl
 rw [this]
theorem NP {r:aj} {s:ByteArray} (h :(pb r s).isSome=true):k3 (bu r s).kind 119 110/\k3 (bu r s).mark 87 82:=by
 obtain ⟨x,hx⟩:=Option.isSome_iff_exists.1 h
 have:bu r s=x:=by unfold bu;rw [hx];rfl
 rw [this];exact PS hx
theorem wh {r:aj} (hc :(1<=r.Wide/\r.Wide<=5)/\(1<=r.NoBall/\r.NoBall<=5)) {s:ByteArray} (h :(pb r s).isSome=true):EN (bu r s):=by
 obtain ⟨x,hx⟩:=Option.isSome_iff_exists.1 h
 have:bu r s=x:=by unfold bu;rw [hx];rfl
 rw [this];obtain ⟨h1,h2,h3,_⟩:=Ys hc hx;exact ⟨h1,h2,h3⟩
theorem vW {r:aj} :∀ (l pre:List aa.aH),vw r pre l=0->∀ x∈l,mw r x.Symbols/\(1<=x.Bowler/\x.Bowler<=r.Side)
 | [],_,_,x,hx=>by cases hx
 | y::l,pre,h,x,hx=>by
  unfold vw at h
  have h0:lz r pre y=0:=by
   by_cases hb:lz r pre y=0
   ·exact hb
   ·rw [if_pos (by simpa using hb)] at h;exact absurd h hb
  rw [if_neg (by rw [h0];decide)] at h;rcases List.mem_cons.1 hx with rfl|hx
  ·unfold lz at h0;by_cases hw:yu r x=true
   ·rw [if_pos hw] at h0;cases h0
   ·rw [if_neg hw] at h0;by_cases he:x.Symbols.isEmpty=true
    ·rw [if_pos he] at h0;cases h0
    ·rw [if_neg he] at h0;by_cases ha :(x.Symbols.any fun s=>(pb r s).isNone)=true
     ·rw [if_pos ha] at h0;cases h0
     ·refine ⟨fun s hs=>?_,?_⟩
      ·cases hr:pb r s with
       | some _=>rfl
       | none=>exact absurd (List.any_eq_true.2 ⟨s,hs,by rw [hr];rfl⟩) ha
      ·unfold yu at hw;simp only [Bool.or_eq_true,decide_eq_true_eq,not_or] at hw;omega
  ·exact vW l _ h x hx
theorem EM {r:aj} {b:aa.ay} (h :∀ x∈b.Boxes,mw r x.Symbols):rI r b=b.Boxes.map fun x=>x.Symbols.map (bu r):=by unfold rI;refine List.map_congr_left fun x hx=>?_;rw [xJ (h x hx)];rfl
end
section
open Go Go.aa Go.RowKit
attribute [local irreducible] Go.aa.DT.sat Go.aa.a8 Go.aa.RT.sat Go.aa.dD
abbrev vL:Ty:= .slice Rm
abbrev yi:Ty:= .slice vL
def sT (r:aj):Prop:=kq r/\(0<=r.Balls/\r.Balls<=1000)/\(1<=r.Side/\r.Side<=1000)
abbrev hpC:List (Nat×PB):= [(0,.dat (.nm .aj)),(1,.dat (.nm .ay)),(2,.row 3 vL)]
abbrev Sa:List (Nat×PB):= [(0,.dat (.nm .aj)),(1,.dat (.nm .ay)),(2,.row 3 vL),(4,.dat (.nm .aH)),(5,.row 6 Rm)]
abbrev tmC:List (Nat×PC):= [(2,.c (.ptr 0 0)),(3,.c (.ptr 1 0)),(6,.c (.osl 2 3)),(7,.h I)]
abbrev QV:List (Nat×PC):= [(18,.h (.slice (.nm .aH))),(19,.h I),(20,.h I)]
abbrev Uf:List (Nat×PC):= [(8,.h I),(9,.c (.ptr 4 0)),(10,.c (.osl 5 6))]
abbrev aco:Lf×bl:=(.ret,⟨[(4,.c .nilsl),(5,.h I)],[],0⟩)
abbrev qC0:bl:=⟨tmC++QV++Uf++[(36,.h (.slice .str)),(37,.h I),(38,.h I)],Sa,7⟩
abbrev xC0:List (Lf×bl):= [(.ext 2,⟨tmC++QV++Uf,Sa,7⟩),aco]
abbrev TC0:Type:=Int×List aa.aH×Int×Int×Int×List ByteArray×Int×Int×aj×aa.ay×List (List ab)×aa.aH×List ab×Unit
abbrev TCx:Type:=Int×List aa.aH×Int×Int×Int×aj×aa.ay×List (List ab)×aa.aH×List ab×Unit
def ig:TC0->Sum TCx (Int×Unit)
 |(g,l,n,i,k,s,_,j,r,b,o,x,y,_)=>match jj r (s.drop j.toNat) with
  | some ys=> .inl (g,l,n,i,k,r,b,o,x,y++ys,())
  | none=> .inr (4,())
def zV:TC0->Prop
 |(_,_,_,_,_,s,m,j,r,_,_,_,y,_)=>(m =(s.length:Int)/\s.length<=4000)/\(0<=j/\j<=m)/\sT r/\(y.length:Int)<=j
def OU:TC0->Nat
 |(_,_,_,_,_,_,m,j,_)=>(m - j).toNat
abbrev qC1:bl:=⟨tmC++QV++Uf++[(116,.c (.osl 5 6)),(117,.h I),(118,.h I)],Sa,7⟩
abbrev xC1:List (Lf×bl):= [(.ext 5,⟨tmC++QV++Uf,Sa,7⟩)]
abbrev TC1:Type:=Int×List aa.aH×Int×Int×Int×Int×Int×aj×aa.ay×List (List ab)×aa.aH×List ab×Unit
def sF:TC1->TCx
 |(g,l,n,i,k,_,j,r,b,o,x,y,_)=>(g+cK (y.drop j.toNat),l,n,i,k,r,b,o,x,y,())
def zW:TC1->Prop
 |(g,_,_,_,_,m,j,_,_,_,_,y,_)=>(m =(y.length:Int)/\y.length<=4000)/\(0<=j/\j<=m)/\0<=g/\g<=1000+j
def OV:TC1->Nat
 |(_,_,_,_,_,m,j,_)=>(m - j).toNat
abbrev qC2:bl:=⟨tmC++QV,hpC,4⟩
abbrev xC2:List (Lf×bl):= [(.ext 0,⟨[(6,.c (.osl 2 3))],[(2,.row 3 vL)],4⟩),aco]
abbrev TC2:Type:=Int×List aa.aH×Int×Int×aj×aa.ay×List (List ab)×Unit
def uk (l:List aa.aH) (i:Int):Option (Int×Int):=if i==0 then none else some ((l.getD (i - 1).toNat aH.zero).Over,(l.getD (i - 1).toNat aH.zero).Bowler)
def Gi (z:Sum Int (List (List ab))):Sum (List (List ab)×Unit) (Int×Unit):=match z with
 | .inl e=> .inr (e,())
 | .inr o=> .inl (o,())
def jm:TC2->Sum (List (List ab)×Unit) (Int×Unit)
 |(g,l,_,i,r,_,o,_)=>Gi (pZ r (l.drop i.toNat) (uk l i) g o)
def wR:TC2->Prop
 |(g,l,n,i,r,b,o,_)=>(n =(l.length:Int)/\po l)/\(0<=i/\i<=n)/\(sT r/\b.Boxes=l)/\(0<=g/\g<=1000)/\(o.length:Int)<=i
def H9:TC2->Nat
 |(_,_,n,i,_)=>(n - i).toNat
abbrev ns:bl:=cQ [.nm .aj,.nm .ay]
abbrev Gy:bl:=cQ [yi,I]
def fO (z:Sum Int (List (List ab))):List (List ab)×Int×Unit:=match z with
 | .inl e=>([],e,())
 | .inr o=>(o,0,())
def YI:Den (bj ns)->List Prop×Den (bj Gy):=fun x=>([sT x.1,po x.2.1.Boxes],fO (pZ x.1 x.2.1.Boxes none 0 []))
theorem PT {r:aj} (hr:kq r) (s:ByteArray):MW r.Wide r.NoBall s.data.toList =(pb r s).isSome/\∀ x,pb r s=some x->jx s.data.toList=x:=by
 obtain ⟨h1,h2⟩:=Bx hr.1 hr.2 s.data.toList;unfold pb
 cases hf:He r.Wide r.NoBall s.data.toList fk with
 | none=>rw [h1,hf];exact ⟨rfl,fun x h=>by cases h⟩
 | some y=>rw [h1,hf];refine ⟨rfl,fun x h=>?_⟩;cases h;exact h2 _ hf
theorem EX :∀ l:List ab,0<=cK l/\cK l<=(l.length:Int)
 | []=>⟨Int.le_refl _,Int.le_refl _⟩
 | x::l=>by
  have ih:=EX l;have h:0<=eK x/\eK x<=1:=by unfold eK;split <;> decide
  have e:cK (x::l)=eK x+cK l:=rfl;have el :((x::l).length:Int)=l.length+1:=rfl;rw [e,el];omega
theorem GB {r:aj} :∀ {l:List ByteArray} {ys:List ab},jj r l=some ys->ys.length=l.length
 | [],ys,h=>by cases h;rfl
 | s::l,ys,h=>by
  unfold jj at h
  cases hs:pb r s with
  | none=>rw [hs] at h;cases h
  | some x=>
   rw [hs] at h
   cases hl:jj r l with
   | none=>rw [hl] at h;cases h
   | some zs=>rw [hl] at h;cases h;rw [List.length_cons,List.length_cons,GB hl]
noncomputable def LI:Lp:=(⟨0,aI [JO] Tryz.f68,(fun _=>none),(bA Tryz.f68 0 0),qC0,xC0⟩:Lp)
theorem Y8 (g:Int) (l:List aa.aH) (n:Int) (i:Int) (k:Int) (s:List ByteArray) (m:Int) (j:Int) (r:aj) (b:aa.ay) (o:List (List ab)) (x:aa.aH) (z:List ab) (hi:zV (g,l,n,i,k,s,m,j,r,b,o,x,z,())) :(Go.aa.stepG LI ig (fun y:Den (bj LI.q)=>zV y/\OU y<OU (g,l,n,i,k,s,m,j,r,b,o,x,z,())) (g,l,n,i,k,s,m,j,r,b,o,x,z,())/\Go.aa.bB LI ig (g,l,n,i,k,s,m,j,r,b,o,x,z,())=ig (g,l,n,i,k,s,m,j,r,b,o,x,z,())):=by
 refine cast (by kernel_rfl) (?_:let r1:Bool:=!MW r.7 r.8 (s.getD j.toNat (af Ty.str)).1.1;let r2:List ab:= [ab.mk (Rk (s.getD j.toNat (af Ty.str)).1.1) (gH (sK (s.getD j.toNat (af Ty.str)).1.1)).1 (Rh (gH (sK (s.getD j.toNat (af Ty.str)).1.1)).2) (Ri (gH (sK (s.getD j.toNat (af Ty.str)).1.1)).2) (Vp (Rj (gH (sK (s.getD j.toNat (af Ty.str)).1.1)).2))];((decide (j<m)=true->(0<=j/\j <(↑s.length:Int))/\kq r/\(r1=true->True)/\(r1=false->(z.length+r2.length) *(40:Nat)<=(70368744177664:Nat)/\zV (g,l,n,i,k,s,m,IntKind.i64.wrap (j+1),r,b,o,x,z++r2,())/\OU (g,l,n,i,k,s,m,IntKind.i64.wrap (j+1),r,b,o,x,z++r2,())<OU (g,l,n,i,k,s,m,j,r,b,o,x,z,())))/\(decide (j<m)=false->True))/\(cond (decide (j<m)) (cond r1 (Sum.inr (4,())) (ig (g,l,n,i,k,s,m,IntKind.i64.wrap (j+1),r,b,o,x,z++r2,()))) (Sum.inl (g,l,n,i,k,r,b,o,x,z,())))=ig (g,l,n,i,k,s,m,j,r,b,o,x,z,()));intro r1 r2
 clear_value (hr1:r1=_) (hr2:r2=_)
 obtain ⟨⟨h1,h1b⟩,⟨h2,h3⟩,hr,h4⟩:=hi;have h1:m =(s.length:Int):=h1;have h1b:s.length<=4000:=h1b;have h2:0<=j:=h2;have h3:j<=m:=h3;have h4 :(z.length:Int)<=j:=h4;have hw:kq r:=hr.1;refine dP (fun h=>?_) (fun h=>?_)
 ·have e1:IntKind.i64.wrap (j+1)=j+1:=a7 (by omega) (by omega);have hd:s.drop j.toNat=s.getD j.toNat (af Ty.str)::s.drop (j+1).toNat:=aY h2 (by omega) _;generalize s.getD j.toNat (af Ty.str)=w at *;obtain ⟨q1,q2⟩:=PT hw w;have er:r1=!(pb r w).isSome:=by rw [hr1,<-q1]
  have e2:r2=[jx w.data.toList]:=hr2
  cases hx:pb r w with
  | none=>
   have e:r1=true:=by rw [er,hx];rfl
   rw [e];refine ⟨⟨⟨h2,by omega⟩,hw,fun _=>trivial,fun z=>Bool.noConfusion z⟩,?_⟩;show Sum.inr (4,())=ig (g,l,n,i,k,s,m,j,r,b,o,x,z,());unfold ig;simp only;rw [hd,jj,hx]
  | some v=>
   have e:r1=false:=by rw [er,hx];rfl
   rw [q2 v hx] at e2;rw [e,e1,e2]
   have key:ig (g,l,n,i,k,s,m,j+1,r,b,o,x,z++[v],())=ig (g,l,n,i,k,s,m,j,r,b,o,x,z,()):=by
    unfold ig;simp only;rw [hd,jj,hx];simp only
    cases jj r (s.drop (j+1).toNat) with
    | none=>rfl
    | some ys=>
     show Sum.inl _=Sum.inl _;rw [List.append_assoc];rfl
   refine ⟨⟨⟨h2,by omega⟩,hw,fun z=>Bool.noConfusion z,fun _=>⟨?_,⟨⟨h1,h1b⟩,⟨?_,?_⟩,hr,?_⟩,?_⟩⟩,key⟩
   ·have:[v].length=1:=rfl
    omega
   ·show 0<=j+1;omega
   ·show j+1<=m;omega
   ·show ((z++[v]).length:Int)<=j+1;rw [List.length_append]
    have:[v].length=1:=rfl
    omega
   ·show (m - (j+1)).toNat <(m - j).toNat;omega
 ·show Sum.inl (g,l,n,i,k,r,b,o,x,z,())=ig (g,l,n,i,k,s,m,j,r,b,o,x,z,());unfold ig;simp only;rw [aN (l:=s) (by omega)];show _=Sum.inl (g,l,n,i,k,r,b,o,x,z++[],());rw [List.append_nil]
noncomputable def abZ:aw:=aq LI ig zV
noncomputable def abA:Nat:=fo (bA Tryz.f68 0 0)
theorem Xp:aJ Tryz.prog 0 Tryz.f68.ntmps (bA Tryz.f68 0 0) (aq LI ig zV):=
 aD LI (az (.aP Ga rfl .nil) _) mixed (fun b hb S hS=>by cases hS) ig zV OU (fun |⟨g,l,n,i,k,s,m,j,r,b,o,x,z,⟨⟩⟩,hi=>Y8 g l n i k s m j r b o x z hi)
noncomputable def LJ:Lp:=(⟨0,aI [] Tryz.f68,(fun _=>none),(bA Tryz.f68 0 1),qC1,xC1⟩:Lp)
theorem Y9 (g:Int) (l:List aa.aH) (n:Int) (i:Int) (k:Int) (m:Int) (j:Int) (r:aj) (b:aa.ay) (o:List (List ab)) (x:aa.aH) (z:List ab) (hi:zW (g,l,n,i,k,m,j,r,b,o,x,z,())) :(Go.aa.stepG LJ sF (fun y:Den (bj LJ.q)=>zW y/\OV y<OV (g,l,n,i,k,m,j,r,b,o,x,z,())) (g,l,n,i,k,m,j,r,b,o,x,z,())/\Go.aa.bB LJ sF (g,l,n,i,k,m,j,r,b,o,x,z,())=sF (g,l,n,i,k,m,j,r,b,o,x,z,())):=by
 refine cast (by kernel_rfl) (?_:let r1:Bool:=(z.getD j.toNat (af (Ty.nm Nm.ab))).1==0;let r2:Int×List aa.aH×Int×Int×Int×aj×aa.ay×List (List ab)×aH×List ab×PUnit:=af (I.prod ((Ty.nm Nm.aH).slice.prod (I.prod (I.prod (I.prod ((Ty.nm Nm.aj).prod ((Ty.nm Nm.ay).prod (vL.slice.prod ((Ty.nm Nm.aH).prod (Rm.slice.prod Ty.unit))))))))));((decide (j<m)=true->((0<=j/\j <(↑z.length:Int))/\(r1=true->True)/\(r1=false->True))/\(true=true->zW (cond r1 (IntKind.i64.wrap (g+1)) g,l,n,i,k,m,IntKind.i64.wrap (j+1),r,b,o,x,z,())/\OV (cond r1 (IntKind.i64.wrap (g+1)) g,l,n,i,k,m,IntKind.i64.wrap (j+1),r,b,o,x,z,())<OV (g,l,n,i,k,m,j,r,b,o,x,z,())))/\(decide (j<m)=false->True))/\(cond (decide (j<m)) (cond (true&&true) (sF (cond r1 (IntKind.i64.wrap (g+1)) g,l,n,i,k,m,IntKind.i64.wrap (j+1),r,b,o,x,z,())) (cond true (sF (cond r1 (IntKind.i64.wrap (g+1)) g,l,n,i,k,m,IntKind.i64.wrap (j+1),r,b,o,x,z,())) (cond r1 r2 r2))) (g,l,n,i,k,r,b,o,x,z,()))=sF (g,l,n,i,k,m,j,r,b,o,x,z,()));intro r1 r2
 clear_value (hr1:r1=_) (hr2:r2=_)
 obtain ⟨⟨h1,h1b⟩,⟨h2,h3⟩,h4,h5⟩:=hi;have h1:m =(z.length:Int):=h1;have h1b:z.length<=4000:=h1b;have h2:0<=j:=h2;have h3:j<=m:=h3;have h4:0<=g:=h4;have h5:g<=1000+j:=h5;refine dP (fun h=>?_) (fun h=>?_)
 ·have e1:IntKind.i64.wrap (j+1)=j+1:=a7 (by omega) (by omega);have hd:z.drop j.toNat=z.getD j.toNat (af (Ty.nm Nm.ab))::z.drop (j+1).toNat:=aY h2 (by omega) _;generalize z.getD j.toNat (af (Ty.nm Nm.ab))=v at *
  have e2 :(bif r1 then IntKind.i64.wrap (g+1) else g)=g+eK v:=by
   rw [hr1];unfold eK
   cases v.kind==0 with
   | true=>exact bE (by omega) (by omega)
   | false=>show g=g+0;omega
  have hf:0<=eK v/\eK v<=1:=by unfold eK;split <;> decide
  rw [e1,e2];refine ⟨⟨⟨⟨h2,by omega⟩,fun _=>trivial,fun _=>trivial⟩,fun _=>⟨⟨⟨h1,h1b⟩,⟨?_,?_⟩,?_,?_⟩,?_⟩⟩,?_⟩
  ·show 0<=j+1;omega
  ·show j+1<=m;omega
  ·show 0<=g+eK v;omega
  ·show g+eK v<=1000 +(j+1);omega
  ·show (m - (j+1)).toNat <(m - j).toNat;omega
  ·show (g+eK v+cK (z.drop (j+1).toNat),l,n,i,k,r,b,o,x,z,()) =(g+cK (z.drop j.toNat),l,n,i,k,r,b,o,x,z,());rw [hd];show _ =(g +(eK v+cK (z.drop (j+1).toNat)),l,n,i,k,r,b,o,x,z,());rw [Int.add_assoc]
 ·show (g,l,n,i,k,r,b,o,x,z,()) =(g+cK (z.drop j.toNat),l,n,i,k,r,b,o,x,z,());rw [aN (l:=z) (by omega)];show _ =(g+0,l,n,i,k,r,b,o,x,z,());rw [Int.add_zero]
noncomputable def ab0:aw:=aq LJ sF zW
noncomputable def abB:Nat:=fo (bA Tryz.f68 0 1)
theorem Xq:aJ Tryz.prog 0 Tryz.f68.ntmps (bA Tryz.f68 0 1) (aq LJ sF zW):=
 aD LJ (az (aZ.nil) _) mixed (fun b hb S hS=>by cases hS) sF zW OV (fun |⟨g,l,n,i,k,m,j,r,b,o,x,z,⟨⟩⟩,hi=>Y9 g l n i k m j r b o x z hi)
noncomputable def LK:Lp:=(⟨0,aI [JO] Tryz.f68,(find [(abA,abZ),(abB,ab0)]),(aC Tryz.f68 0),qC2,xC2⟩:Lp)
theorem Za (g:Int) (l:List aa.aH) (n:Int) (i:Int) (r:aj) (b:aa.ay) (o:List (List ab)) (hi:wR (g,l,n,i,r,b,o,())) :(Go.aa.stepG LK jm (fun y:Den (bj LK.q)=>wR y/\H9 y<H9 (g,l,n,i,r,b,o,())) (g,l,n,i,r,b,o,())/\Go.aa.bB LK jm (g,l,n,i,r,b,o,())=jm (g,l,n,i,r,b,o,())):=by
 refine cast (by kernel_rfl) (?_:let r1:Int:=(↑(l.getD i.toNat (af (Ty.nm Nm.aH))).3.length:Int);let r2:Bool:=cond (decide ((l.getD i.toNat (af (Ty.nm Nm.aH))).2<1)) true (decide ((l.getD i.toNat (af (Ty.nm Nm.aH))).2>r.2));let r3:Bool:=wV (ig (g,l,n,i,i,(l.getD i.toNat (af (Ty.nm Nm.aH))).3,r1,0,r,b,o,l.getD i.toNat (af (Ty.nm Nm.aH)),[],()));let r4:Int×List aa.aH×Int×Int×Int×aj×aa.ay×List (List ab)×aH×List ab×PUnit:=mV (af (I.prod ((Ty.nm Nm.aH).slice.prod (I.prod (I.prod (I.prod ((Ty.nm Nm.aj).prod ((Ty.nm Nm.ay).prod (vL.slice.prod ((Ty.nm Nm.aH).prod (Rm.slice.prod Ty.unit))))))))))) (ig (g,l,n,i,i,(l.getD i.toNat (af (Ty.nm Nm.aH))).3,r1,0,r,b,o,l.getD i.toNat (af (Ty.nm Nm.aH)),[],()));let r5:Bool:=r4.2.2.2.2.1==0;let r6:Int:=(↑r4.2.2.2.2.2.2.2.2.2.1.length:Int);let r7:Int:=IntKind.i64.wrap (r4.2.2.2.2.1 - 1);let r8:List (List ab):= [r4.2.2.2.2.2.2.2.2.2.1];let r9:Bool:=r6==0;let r10:aH:=r4.2.2.2.2.2.2.1.2.getD r7.toNat (af (Ty.nm Nm.aH));let r11:Bool:=cond r5 (r4.2.2.2.2.2.2.2.2.1.1==0) false;let r12:Bool:=r4.2.2.2.2.2.2.2.2.1.1==r10.1;let r13:Bool:=r4.2.2.2.2.2.2.2.2.1.2 != r10.2;let r14:Bool:=r4.2.2.2.2.2.2.2.2.1.1==IntKind.i64.wrap (r10.1+1);let r15:Bool:=cond r14 (r4.1==r4.2.2.2.2.2.1.5) false;let r16:Bool:=cond r12 (cond r13 (decide (r4.1<r4.2.2.2.2.2.1.5)) false) false;let r17:Int:=cond r11 r4.1 (cond r16 r4.1 0);let r18:Int:=r17+cK (List.drop (Int.toNat 0) r4.2.2.2.2.2.2.2.2.2.1);let r19:Bool:=cond r11 true (cond r5 false (true&&cond r16 true (true&&r15)));let r20:Bool:=decide (r18>r4.2.2.2.2.2.1.5);((decide (i<n)=true->(0<=i/\i <(↑l.length:Int))/\(r2=true->True)/\(r2=false->((cq fun x=>none)/\(r1 =(↑(l.getD i.toNat (af (Ty.nm Nm.aH))).3.length:Int)/\(l.getD i.toNat (af (Ty.nm Nm.aH))).3.length<=(4000:Nat))/\((0:Int)<=0/\0<=r1)/\sT r/\(↑(0:Nat):Int)<=0)/\(r3=true->(r9=true->True)/\(r9=false->(r19=true->((r11=true->True)/\(r11=false->(r5=true->False)/\(r5=false->((0<=r7/\r7 <(↑r4.2.2.2.2.2.2.1.2.length:Int))/\(r12=true->(0<=r7/\r7 <(↑r4.2.2.2.2.2.2.1.2.length:Int))/\(r13=true->True)/\(r13=false->True))/\(r12=false->True))/\(true=true->(r16=true->True)/\(r16=false->((0<=r7/\r7 <(↑r4.2.2.2.2.2.2.1.2.length:Int))/\(r14=true->True)/\(r14=false->True))/\(true=true->(r15=true->True)/\(r15=false->False)))))))/\((cq fun x=>none)/\(r6 =(↑r4.2.2.2.2.2.2.2.2.2.1.length:Int)/\r4.2.2.2.2.2.2.2.2.2.1.length<=(4000:Nat))/\((0:Int)<=0/\0<=r6)/\0<=r17/\r17<=(1000:Int)+0)/\(r20=true->True)/\(r20=false->(r4.2.2.2.2.2.2.2.1.length+r8.length) *(24:Nat)<=(70368744177664:Nat)/\wR (r18,r4.2.1,r4.2.2.1,IntKind.i64.wrap (r4.2.2.2.1+1),r4.2.2.2.2.2.1,r4.2.2.2.2.2.2.1,r4.2.2.2.2.2.2.2.1++r8,())/\H9 (r18,r4.2.1,r4.2.2.1,IntKind.i64.wrap (r4.2.2.2.1+1),r4.2.2.2.2.2.1,r4.2.2.2.2.2.2.1,r4.2.2.2.2.2.2.2.1++r8,())<H9 (g,l,n,i,r,b,o,())))/\(r19=false->(r11=true->True)/\(r11=false->(r5=true->True)/\(r5=false->((0<=r7/\r7 <(↑r4.2.2.2.2.2.2.1.2.length:Int))/\(r12=true->(0<=r7/\r7 <(↑r4.2.2.2.2.2.2.1.2.length:Int))/\(r13=true->True)/\(r13=false->True))/\(r12=false->True))/\(true=true->(r16=true->True)/\(r16=false->((0<=r7/\r7 <(↑r4.2.2.2.2.2.2.1.2.length:Int))/\(r14=true->True)/\(r14=false->True))/\(true=true->(r15=true->True)/\(r15=false->True)))))))))/\(r3=false->True)))/\(decide (i<n)=false->True))/\(cond (decide (i<n)) (cond r2 (Sum.inr (2,())) (cond r3 (cond r9 (Sum.inr (4,())) (cond (true&&(false&&(true&&true&&true&&(true&&(true&&true&&(true&&false)))))) (cond r20 (Sum.inr (9,())) (jm (r18,r4.2.1,r4.2.2.1,IntKind.i64.wrap (r4.2.2.2.1+1),r4.2.2.2.2.2.1,r4.2.2.2.2.2.2.1,r4.2.2.2.2.2.2.2.1++r8,()))) (cond r19 (cond r20 (Sum.inr (9,())) (jm (r18,r4.2.1,r4.2.2.1,IntKind.i64.wrap (r4.2.2.2.1+1),r4.2.2.2.2.2.1,r4.2.2.2.2.2.2.1,r4.2.2.2.2.2.2.2.1++r8,()))) (cond r11 (Sum.inl (af (vL.slice.prod Ty.unit))) (cond r5 (Sum.inr (8,())) (cond (true&&true&&true) (cond r16 (Sum.inl (af (vL.slice.prod Ty.unit))) (cond (true&&true) (cond r15 (Sum.inl (af (vL.slice.prod Ty.unit))) (Sum.inr (8,()))) (cond true (cond r15 (Sum.inl (af (vL.slice.prod Ty.unit))) (Sum.inr (8,()))) (cond r14 (Sum.inl (af (vL.slice.prod Ty.unit))) (Sum.inl (af (vL.slice.prod Ty.unit))))))) (cond true (cond r16 (Sum.inl (af (vL.slice.prod Ty.unit))) (cond (true&&true) (cond r15 (Sum.inl (af (vL.slice.prod Ty.unit))) (Sum.inr (8,()))) (cond true (cond r15 (Sum.inl (af (vL.slice.prod Ty.unit))) (Sum.inr (8,()))) (cond r14 (Sum.inl (af (vL.slice.prod Ty.unit))) (Sum.inl (af (vL.slice.prod Ty.unit))))))) (cond r12 (cond r13 (Sum.inl (af (vL.slice.prod Ty.unit))) (Sum.inl (af (vL.slice.prod Ty.unit)))) (Sum.inl (af (vL.slice.prod Ty.unit))))))))))) (Sum.inr (jL (af (I.prod Ty.unit)) (ig (g,l,n,i,i,(l.getD i.toNat (af (Ty.nm Nm.aH))).3,r1,0,r,b,o,l.getD i.toNat (af (Ty.nm Nm.aH)),[],())))))) (Sum.inl (o,())))=jm (g,l,n,i,r,b,o,()));intro r1 r2 r3 r4 r5 r6 r7 r8 r9 r10 r11 r12 r13 r14 r15 r16 r17 r18 r19 r20
 clear_value (hr1:r1=_) (hr2:r2=_) (hr3:r3=_) (hr4:r4=_) (hr5:r5=_) (hr6:r6=_) (hr7:r7=_) (hr8:r8=_) (hr9:r9=_) (hr10:r10=_) (hr11:r11=_) (hr12:r12=_) (hr13:r13=_) (hr14:r14=_) (hr15:r15=_) (hr16:r16=_) (hr17:r17=_) (hr18:r18=_) (hr19:r19=_) (hr20:r20=_)
 obtain ⟨⟨h1,h1a,h1b⟩,⟨h2,h3⟩,⟨hr,hbl⟩,⟨h4,h4b⟩,h5⟩:=hi;have h1:n =(l.length:Int):=h1;have h1a:l.length<=4000:=h1a;have h2:0<=i:=h2;have h3:i<=n:=h3;have h4:0<=g:=h4;have h4b:g<=1000:=h4b;have h5 :(o.length:Int)<=i:=h5;have hbl:b.Boxes=l:=hbl;refine dP (fun h=>?_) (fun h=>?_)
 ·have e1:IntKind.i64.wrap (i+1)=i+1:=a7 (by omega) (by omega);have hd:l.drop i.toNat=l.getD i.toNat (af (Ty.nm Nm.aH))::l.drop (i+1).toNat:=aY h2 (by omega) _;have hm:l.getD i.toNat (af (Ty.nm Nm.aH))∈l:=List.mem_of_mem_drop (i:=i.toNat) (by rw [hd];exact List.mem_cons_self)
  have hpn:uk l (i+1)=some ((l.getD i.toNat (af (Ty.nm Nm.aH))).Over,(l.getD i.toNat (af (Ty.nm Nm.aH))).Bowler):=by unfold uk;rw [if_neg (by simp;omega),show (i+1 - 1)=i by omega];rfl
  have hx:=h1b _ hm;generalize l.getD i.toNat (af (Ty.nm Nm.aH))=x at *
  have hw:r2=yu r x:=by rw [hr2];unfold yu;cases decide (x.Bowler<1) <;> rfl
  have key:jm (g,l,n,i,r,b,o,())=bif r2 then .inr (2,()) else match jj r x.Symbols with
    | none=> .inr (4,())
    | some ys=>bif ys.isEmpty then .inr (4,()) else match vc r (uk l i) g x with
     | none=> .inr (8,())
     | some g1=>bif decide (g1+cK ys>r.Balls) then .inr (9,()) else jm (g1+cK ys,l,n,i+1,r,b,o++[ys],()):=by
   show Gi (pZ r (l.drop i.toNat) (uk l i) g o)=_;rw [hd,pZ,hw]
   cases yu r x with
   | true=>rfl
   | false=>
    simp only [cond_false,Bool.false_eq_true,if_false]
    cases jj r x.Symbols with
    | none=>rfl
    | some ys=>
     simp only
     cases ys.isEmpty with
     | true=>rfl
     | false=>
      simp only [cond_false,Bool.false_eq_true,if_false]
      cases vc r (uk l i) g x with
      | none=>rfl
      | some g1=>
       simp only
       cases decide (g1+cK ys>r.Balls) with
       | true=>rfl
       | false=>simp only [cond_false,Bool.false_eq_true,if_false];show _=Gi (pZ r (l.drop (i+1).toNat) (uk l (i+1)) (g1+cK ys) (o++[ys]));rw [hpn]
  have e0:ig (g,l,n,i,i,x.3,r1,0,r,b,o,x,[],())=match jj r x.Symbols with
    | some ys=> .inl (g,l,n,i,i,r,b,o,x,ys,())
    | none=> .inr (4,()):=rfl
  rw [e0] at hr3 hr4 ⊢
  cases hy:jj r x.Symbols with
  | none=>rw [hy] at hr3 key;have e3:r3=false:=hr3;rw [e3,key];refine ⟨⟨⟨h2,by omega⟩,fun _=>trivial,fun _=>⟨⟨rfl,⟨hr1,hx⟩,⟨Int.le_refl _,by omega⟩,hr,Int.le_refl _⟩,fun z=>Bool.noConfusion z,fun _=>trivial⟩⟩,rfl⟩
  | some ys=>
   rw [hy] at hr3 hr4 key;have e3:r3=true:=hr3;have e4:r4 =(g,l,n,i,i,r,b,o,x,ys,()):=hr4;subst e4;clear hr4;dsimp only at *;have hl:=GB hy
   have e9:r9=ys.isEmpty:=by
    rw [hr9,hr6]
    cases ys with
    | nil=>rfl
    | cons y ys=>
     show (((y::ys).length:Int)==0)=false;rw [List.length_cons];simp;omega
   have e18:r18=r17+cK ys:=hr18;have hfb:=EX ys
   have e7:r5=false->r7=i - 1/\0<=r7/\r7 <(b.Boxes.length:Int):=fun h5=>by
    rw [hr5] at h5;have h5:i≠0:=by simpa using h5
    have:r7=i - 1:=by rw [hr7];exact bE (by omega) (by omega)
    rw [hbl];exact ⟨this,by omega,by omega⟩
   have hst:vc r (uk l i) g x=bif r19 then some r17 else none:=by
    cases h5:r5 with
    | true=>
     have h0:i=0:=by rw [hr5] at h5;simpa using h5
     have ep:uk l i=none:=by unfold uk;rw [if_pos (by simpa using h0)]
     rw [ep,hr19,hr17,hr11,h5];show (if x.Over==0 then some g else none)=_;cases hov:x.Over==0 <;> rfl
    | false=>
     obtain ⟨q1,q2,q3⟩:=e7 h5;have h0:i≠0:=by rw [hr5] at h5;simpa using h5
     have ep:uk l i=some (r10.Over,r10.Bowler):=by unfold uk;rw [if_neg (by simpa using h0),hr10,q1,hbl];rfl
     rw [ep,hr19,hr17,hr11,h5,hr16,hr15,hr14,hr13,hr12];show (if x.Over==r10.Over&&(x.Bowler != r10.Bowler&&decide (g<r.Balls)) then some g else if x.Over==W (r10.Over+1)&&g==r.Balls then some 0 else none)=_;cases x.Over==r10.Over <;> cases x.Bowler != r10.Bowler <;> cases decide (g<r.Balls) <;> cases hz:x.Over==IntKind.i64.wrap (r10.Over+1) <;> cases g==r.Balls <;>(show (if (_:Bool)&&_ then _ else _)=_) <;> rfl
   rw [hst] at key
   have e17:0<=r17/\r17<=1000:=by rw [hr17];cases r11 <;> cases r16 <;>(first|exact ⟨h4,h4b⟩|exact ⟨Int.le_refl 0,show (0:Int)<=1000 by decide⟩)
   have F2:r19=true->r11=false->r5=true->False:=fun a b' c=>by rw [hr19,b',c] at a;cases a
   have F3:r19=true->r11=false->r5=false->r16=false->r15=false->False:=fun a b' c d e=>by rw [hr19,b',c,d,e] at a;cases a
   have hnx:r20=false->(o.length+r8.length)*24<=70368744177664/\wR (r18,l,n,i+1,r,b,o++r8,())/\H9 (r18,l,n,i+1,r,b,o++r8,())<H9 (g,l,n,i,r,b,o,()):=fun h20=>by
    have l8:r8.length=1:=by rw [hr8];rfl
    have hb8:r.Balls<=1000:=hr.2.1.2;have h20 :¬ r18>r.Balls:=by rw [hr20] at h20;exact of_decide_eq_false h20
    refine ⟨by omega,⟨⟨h1,h1a,h1b⟩,⟨?_,?_⟩,⟨hr,hbl⟩,⟨?_,?_⟩,?_⟩,?_⟩
    ·show 0<=i+1;omega
    ·show i+1<=n;omega
    ·show 0<=r18;omega
    ·show r18<=1000;omega
    ·show ((o++r8).length:Int)<=i+1;rw [List.length_append];omega
    ·show (n - (i+1)).toNat <(n - i).toNat;omega
   rw [e3,key,e1];refine ⟨⟨⟨h2,by omega⟩,fun _=>trivial,fun _=>⟨⟨rfl,⟨hr1,hx⟩,⟨Int.le_refl _,by omega⟩,hr,Int.le_refl _⟩,fun _=>⟨fun _=>trivial,fun _=>⟨fun a=>⟨⟨fun _=>trivial,fun b'=>⟨fun c=>F2 a b' c,fun c=>⟨⟨(e7 c).2,fun _=>⟨(e7 c).2,fun _=>trivial,fun _=>trivial⟩,fun _=>trivial⟩,fun _=>⟨fun _=>trivial,fun d=>⟨⟨(e7 c).2,fun _=>trivial,fun _=>trivial⟩,fun _=>⟨fun _=>trivial,fun e=>F3 a b' c d e⟩⟩⟩⟩⟩⟩,⟨rfl,⟨hr6,by omega⟩,⟨Int.le_refl _,by omega⟩,e17.1,by omega⟩,fun _=>trivial,hnx⟩,fun _=>⟨fun _=>trivial,fun _=>⟨fun _=>trivial,fun c=>⟨⟨(e7 c).2,fun _=>⟨(e7 c).2,fun _=>trivial,fun _=>trivial⟩,fun _=>trivial⟩,fun _=>⟨fun _=>trivial,fun _=>⟨⟨(e7 c).2,fun _=>trivial,fun _=>trivial⟩,fun _=>⟨fun _=>trivial,fun _=>trivial⟩⟩⟩⟩⟩⟩⟩⟩,fun z=>Bool.noConfusion z⟩⟩,?_⟩;rw [<-e9]
   cases r2 with
   | true=>rfl
   | false=>
    cases r9 with
    | true=>rfl
    | false=>
     cases h19:r19 with
     | true=>
      show (bif r20 then Sum.inr (9,()) else jm (r18,l,n,i+1,r,b,o++r8,())) =(bif decide (r17+cK ys>r.Balls) then Sum.inr (9,()) else jm (r17+cK ys,l,n,i+1,r,b,o++[ys],()));rw [hr20,hr8,e18]
     | false=>
      rw [h19] at hr19
      cases h11:r11 with
      | true=>rw [h11] at hr19;cases hr19
      | false=>
       cases h5:r5 with
       | true=>rfl
       | false=>
        cases h16:r16 with
        | true=>rw [h11,h5,h16] at hr19;cases hr19
        | false=>
         cases h15:r15 with
         | true=>rw [h11,h5,h16,h15] at hr19;cases hr19
         | false=>rfl
 ·show Sum.inl (o,())=Gi (pZ r (l.drop i.toNat) (uk l i) g o);rw [aN (l:=l) (by omega)];rfl
noncomputable def Vx:aw:=aq LK jm wR
noncomputable def UX:Nat:=fo (aC Tryz.f68 0)
theorem Xr:aJ Tryz.prog 0 Tryz.f68.ntmps (aC Tryz.f68 0) (aq LK jm wR):=
 aD LK (az (.aP Ga rfl .nil) _) mixed (aL.cons (by kernel_rfl) Xp (.cons (by kernel_rfl) Xq .nil)) jm wR H9 (fun |⟨g,l,n,i,r,b,o,⟨⟩⟩,hi=>Za g l n i r b o hi)
theorem DD (r:aj) (b:aa.ay) (hr:sT r) (hb:po b.Boxes) :(a8 (aI [] Tryz.f68) (find [(UX,Vx)]) Tryz.f68 ns Gy (r,b,())).sat fun z_=>z_ =(YI (r,b,())).2:=by
 refine cast (by kernel_rfl) (?_:let r1:List (List ab)×Int×Unit:=fO (pZ r b.2 none 0 []);let r2:Bool:=wV (jm (0,b.2,(↑b.2.length:Int),0,r,b,[],()));((cq fun x=>none)/\((↑b.2.length:Int) =(↑b.2.length:Int)/\po b.2)/\((0:Int)<=0/\0<=(↑b.2.length:Int))/\(sT r/\b.2=b.2)/\((0:Int)<=0/\(0:Int)<=1000)/\(↑(0:Nat):Int)<=0)/\(r2=true->((mV (af (vL.slice.prod Ty.unit)) (jm (0,b.2,(↑b.2.length:Int),0,r,b,[],()))).1,0,())=r1)/\(r2=false->([],jL (af (I.prod Ty.unit)) (jm (0,b.2,(↑b.2.length:Int),0,r,b,[],())))=r1));intro r1 r2
 clear_value (hr1:r1=_) (hr2:r2=_)
 have e:jm (0,b.Boxes,(b.Boxes.length:Int),0,r,b,[],())=Gi (pZ r b.Boxes none 0 []):=rfl;have h2:r2=wV (Gi (pZ r b.Boxes none 0 [])):=by rw [hr2,<-e]
 have h1:r1=fO (pZ r b.Boxes none 0 []):=hr1;refine ⟨⟨rfl,⟨rfl,hb⟩,⟨Int.le_refl _,by omega⟩,⟨hr,rfl⟩,⟨Int.le_refl _,by decide⟩,Int.le_refl _⟩,fun h=>?_,fun h=>?_⟩
 ·rw [h1];rw [h2] at h;show ((mV _ (Gi (pZ r b.Boxes none 0 []))).1,(0:Int),())=_
  cases hb:pZ r b.Boxes none 0 [] with
  | inl e=>rw [hb] at h;cases h
  | inr o=>rfl
 ·rw [h1];rw [h2] at h;show ([],jL _ (Gi (pZ r b.Boxes none 0 [])))=_
  cases hb:pZ r b.Boxes none 0 [] with
  | inl e=>rfl
  | inr o=>rw [hb] at h;cases h
def w7:FuncId×dR:=(68,ax KE ns Gy YI)
theorem F5:aR Tryz.prog KE 68 (ax KE ns Gy YI):=by
 refine bh (C:=aI [] Tryz.f68) (az (aZ.nil) _) mixed (fn:=Tryz.f68) Tryz.func68 (by kernel_rfl) (by kernel_rfl) (by kernel_rfl) (by kernel_rfl) (by kernel_rfl) (by kernel_rfl) (Λ:=fun x=>find [(UX,Vx)]) ?_ ?_
 ·rintro ⟨r,b,⟨⟩⟩ hw hn
  exact aL.at (by kernel_rfl) (.cons (by kernel_rfl) (Xr) .nil)
 ·rintro ⟨r,b,⟨⟩⟩ hw hn
  exact DD r b (hn _ List.mem_cons_self) (hn _ (List.mem_cons_of_mem _ List.mem_cons_self))
end
section
open Go Go.aa
attribute [local irreducible] Go.aa.RT.sat Go.aa.dD Go.aa.bT
theorem abK :(dD (Ht [] Tryz.f177) (fun _=>none) Tryz.f177 (fq S8 ())).sat fun v' rows=>hZ v' (DS ()).v/\rows =(DS ()).rows:=by refine cast (by kernel_rfl) (?_ :(nat_lit 0=nat_lit 0/\nat_lit 0=nat_lit 0)/\ [RowD.mk (Ty.nm Nm.ao) [ao.mk 0 (ByteArray.mk #[78,79,84,79,85,84]) false false false false false,ao.mk 1 (ByteArray.mk #[66,79,87,76,69,68]) true false false false false,ao.mk 2 (ByteArray.mk #[67,65,85,71,72,84]) true false false true false,ao.mk 3 (ByteArray.mk #[76,66,87]) true false false false false,ao.mk 4 (ByteArray.mk #[83,84,85,77,80,69,68]) true true false true false,ao.mk 5 (ByteArray.mk #[72,73,84,87,73,67,75,69,84]) true true false false false,ao.mk 6 (ByteArray.mk #[82,85,78,79,85,84]) true true true true true,ao.mk 7 (ByteArray.mk #[72,73,84,84,87,73,67,69]) true false true false false,ao.mk 8 (ByteArray.mk #[79,66,83,84,82,85,67,84,73,78,71]) true true true false true,ao.mk 9 (ByteArray.mk #[84,73,77,69,68,79,85,84]) false false false false false,ao.mk 10 (ByteArray.mk #[82,69,84,73,82,69,68]) false false false false false]]=[RowD.mk (Ty.nm Nm.ao) ei]);exact ⟨⟨rfl,rfl⟩,by kernel_rfl⟩
theorem abq:aR Tryz.prog KK 177 (bq KK S8 DS):=by
 refine ie (C:=Ht [] Tryz.f177) (Jn aZ.nil _) mixed (fn:=Tryz.f177) Tryz.func177 (by kernel_rfl) (by kernel_rfl) (by kernel_rfl) (Λ:=fun _ _=>none) ?_ ?_ ?_
 ·exact fun _ _ _ _ _ _ _ _ h=>by cases h
 ·rintro ⟨⟩
  exact of_decide_eq_true (by kernel_rfl)
 ·rintro ⟨⟩ _ _
  exact abK
theorem afg:ei.length=11:=rfl
theorem Jw {α:Type} (p:α->Bool) :∀ (xs:List α) (i:Nat) (x:α),xs[i]?=some x->p x=true->(∀ y∈xs.take i,p y=false)->xs.find? p=some x
 | [],_,_,h,_,_=>by simp at h
 | y::xs,0,x,h,hp,_=>by simp at h;subst h;simp [hp]
 | y::xs,i+1,x,h,hp,hn=>by have h0:p y=false:=hn y (by simp);rw [List.find?_cons_of_neg (by simp [h0])];exact Jw p xs i x (by simpa using h) hp (fun z hz=>hn z (by simp [hz]))
theorem R6 {α:Type} {xs:List α} {i:Nat} (z:α) (h:i<xs.length):xs[i]?=some (xs.getD i z):=by rw [List.getD_eq_getElem?_getD,List.getElem?_eq_getElem h];rfl
theorem YZ (h:Int) (i:Nat) (hi:JI h i) :(bT (J57 h) (JI h) (fun i=>11 - i) i (T57 h) (cw (Ht [k61] Tryz.f143) (fun _=>none) (aC Tryz.f143 0) (J57 h i)) (L57 i)).1:=by
 refine cast (by kernel_rfl) (?_ :(decide ((↑i:Int) <(↑ei.length:Int))=true->(0<=(↑i:Int)/\(↑i:Int) <(↑ei.length:Int))/\(((ei.getD (↑i:Int).toNat (af (Ty.nm Nm.ao))).1==h)=true->(ei.any fun w=>w.1==h)=true/\(True/\True)/\((ei.getD (↑i:Int).toNat (af (Ty.nm Nm.ao))).1 =(mj h).1/\(ei.getD (↑i:Int).toNat (af (Ty.nm Nm.ao))).2 =(mj h).2/\(ei.getD (↑i:Int).toNat (af (Ty.nm Nm.ao))).3 =(mj h).3/\(ei.getD (↑i:Int).toNat (af (Ty.nm Nm.ao))).4 =(mj h).4/\(ei.getD (↑i:Int).toNat (af (Ty.nm Nm.ao))).5 =(mj h).5/\(ei.getD (↑i:Int).toNat (af (Ty.nm Nm.ao))).6 =(mj h).6/\(ei.getD (↑i:Int).toNat (af (Ty.nm Nm.ao))).7 =(mj h).7/\True)/\True)/\(((ei.getD (↑i:Int).toNat (af (Ty.nm Nm.ao))).1==h)=false->JI h (i +(1:Nat))/\(11:Nat) - (i +(1:Nat)) <(11:Nat) - i/\(h=h/\True/\True/\(↑ei.length:Int) =(↑ei.length:Int)/\IntKind.i64.wrap ((↑i:Int)+1) =(↑(i +(1:Nat)):Int)/\True)/\RowD.mk (Ty.nm Nm.ao) ei=RowD.mk (Ty.nm Nm.ao) ei/\((0:Int)=0/\ByteArray.empty=ByteArray.empty/\false=false/\false=false/\false=false/\false=false/\false=false/\True)/\True))/\(decide ((↑i:Int) <(↑ei.length:Int))=false->(ei.any fun w=>w.1==h)=false/\(True/\True)/\((0:Int)=0/\ByteArray.empty=ByteArray.empty/\false=false/\false=false/\false=false/\false=false/\false=false/\True)/\True));have e :(i:Int).toNat=i:=by simp
 rw [e];generalize hw:ei.getD i (af (Ty.nm Nm.ao))=w;refine ⟨fun h1=>?_,fun h1=>?_⟩
 ·have h1:i<ei.length:=by simpa using h1
  have h3:ei[i]?=some w:=by rw [<-hw];exact R6 _ h1
  refine ⟨⟨by omega,by omega⟩,fun h2=>?_,fun h2=>?_⟩
  ·have h4:mj h=w:=by unfold mj;rw [Jw (fun w=>w.how==h) ei i w h3 h2 hi.2];rfl
   have h5 :(ei.any fun w=>w.1==h)=true:=List.any_eq_true.2 ⟨w,List.mem_of_getElem? h3,h2⟩;rw [h4];exact ⟨h5,⟨trivial,trivial⟩,⟨rfl,rfl,rfl,rfl,rfl,rfl,rfl,trivial⟩,trivial⟩
  ·rw [afg] at h1;refine ⟨⟨by omega,fun y hy=>?_⟩,by omega,⟨rfl,trivial,trivial,rfl,?_,trivial⟩,rfl,⟨rfl,rfl,rfl,rfl,rfl,rfl,rfl,trivial⟩,trivial⟩
   ·rw [List.take_add_one,h3] at hy;rcases List.mem_append.1 hy with hy|hy
    ·exact hi.2 y hy
    ·simp at hy;subst hy;exact h2
   ·rw [a7 (by omega) (by omega)];omega
 ·have h1:ei.length<=i:=by simpa using h1
  refine ⟨?_,⟨trivial,trivial⟩,⟨rfl,rfl,rfl,rfl,rfl,rfl,rfl,trivial⟩,trivial⟩;rw [List.any_eq_false];intro x hx
  have:=hi.2 x (by rw [List.take_of_length_le h1];exact hx)
  simpa using this
theorem SH (h:Int):dS Tryz.prog Tryz.f143.ntmps [aC Tryz.f143 0] (Λ57 h):=
 .cons (L:=gr ⟨[],[],16⟩ (J57 h 0) (T57 h)) (by kernel_rfl) (rX (Jn (.cons abq .nil) _) mixed (J57 h) (fun _=>rfl) (JI h) (fun i=>11 - i) (fun _ _=>none) (fun _ _ _ _ _ h=>by cases h) (T57 h) [] [] 0 ⟨Nat.zero_le _,by simp⟩ L57 (YZ h)) .nil
theorem abJ (h:Int) :(dD (Ht [k61] Tryz.f143) (Λ57 h) Tryz.f143 (fq Gu (h,()))).sat fun v' rows=>hZ v' (DR (h,())).v/\rows =(DR (h,())).rows:=by
 refine cast (by kernel_rfl) (?_ :((cq fun x=>none)/\(h=h/\True/\True/\(↑ei.length:Int) =(↑ei.length:Int)/\0 =(↑(0:Nat):Int)/\True)/\RowD.mk (Ty.nm Nm.ao) ei=RowD.mk (Ty.nm Nm.ao) ei/\((0:Int)=0/\ByteArray.empty=ByteArray.empty/\false=false/\false=false/\false=false/\false=false/\false=false/\True)/\True)/\((ei.any fun w=>w.1==h)=true->((mj h).1 =(mj h).1/\(mj h).2 =(mj h).2/\(mj h).3 =(mj h).3/\(mj h).4 =(mj h).4/\(mj h).5 =(mj h).5/\(mj h).6 =(mj h).6/\(mj h).7 =(mj h).7/\True)/\([]:List RowD)=[])/\((ei.any fun w=>w.1==h)=false->(0 =(mj h).1/\ByteArray.empty =(mj h).2/\false =(mj h).3/\false =(mj h).4/\false =(mj h).5/\false =(mj h).6/\false =(mj h).7/\True)/\([]:List RowD)=[]));refine ⟨⟨rfl,⟨rfl,trivial,trivial,rfl,rfl,trivial⟩,rfl,⟨rfl,rfl,rfl,rfl,rfl,rfl,rfl,trivial⟩,trivial⟩,fun _=>⟨⟨rfl,rfl,rfl,rfl,rfl,rfl,rfl,trivial⟩,rfl⟩,fun h1=>?_⟩
 have h2:mj h=ao.zero:=by
  unfold mj;rw [List.find?_eq_none.2]
  ·rfl
  ·intro x hx hp
   have:=(List.any_eq_false.1 h1) x hx
   exact this hp
 rw [h2];exact ⟨⟨rfl,rfl,rfl,rfl,rfl,rfl,rfl,trivial⟩,rfl⟩
theorem aeD:aR Tryz.prog KK 143 (bq KK Gu DR):=by
 refine ie (C:=Ht [k61] Tryz.f143) (Jn (.cons abq .nil) _) mixed (fn:=Tryz.f143) Tryz.func143 (by kernel_rfl) (by kernel_rfl) (by kernel_rfl) (Λ:=fun x=>Λ57 x.1) ?_ ?_ ?_
 ·rintro ⟨h,⟨⟩⟩ _ _
  exact dS.at (by kernel_rfl) (SH h)
 ·rintro ⟨h,⟨⟩⟩
  exact of_decide_eq_true (by kernel_rfl)
 ·rintro ⟨h,⟨⟩⟩ _ _
  exact abJ h
theorem abH (h:Int) :(dD (Ht [k57] Tryz.f120) (fun _=>none) Tryz.f120 (fq Gu (h,()))).sat fun v' rows=>hZ v' (DQ (h,())).v/\rows =(DQ (h,())).rows:=by refine cast (by kernel_rfl) (?_ :(mj h).2 =(mj h).2/\([]:List RowD)=[]);exact ⟨rfl,rfl⟩
theorem aeB:aR Tryz.prog KK 120 (bq KK Gu DQ):=by
 refine ie (C:=Ht [k57] Tryz.f120) (Jn (.cons aeD .nil) _) mixed (fn:=Tryz.f120) Tryz.func120 (by kernel_rfl) (by kernel_rfl) (by kernel_rfl) (Λ:=fun _ _=>none) ?_ ?_ ?_
 ·exact fun _ _ _ _ _ _ _ _ h=>by cases h
 ·rintro ⟨h,⟨⟩⟩
  exact of_decide_eq_true (by kernel_rfl)
 ·rintro ⟨h,⟨⟩⟩ _ _
  exact abH h
end
section
open Go Go.aa Go.RowKit
attribute [local irreducible] Go.aa.DT.sat Go.aa.a8 Go.aa.RT.sat Go.aa.dD
def FW:List ByteArray:=ei.map ao.name
abbrev q0V:bl:=cQ []
abbrev Tg:bl:=⟨[(0,.c (.osl 0 1))],[(0,.row 1 .str)],2⟩
def sNt:Den (bj q0V)->List Prop×Den (bj Tg):=fun _=>([],(FW,()))
abbrev qHw:bl:=cQ [U8]
abbrev Tb:bl:=cQ [.str]
def FR (h:Int):ByteArray:=(mj h).name
def I3:Den (bj qHw)->List Prop×Den (bj Tb):=fun x=>([],(FR x.1,()))
theorem acj {n:Int} (h:zg (.int .u8) n):0<=n/\n<=255:=by obtain ⟨S,w,cs,h⟩:=h;cases h with|int h=>exact ⟨by have:=h.1;simpa [IntKind.min,IntKind.max,IntKind.signed,IntKind.bits] using this,by have:=h.2;simpa [IntKind.min,IntKind.max,IntKind.signed,IntKind.bits] using this⟩
theorem abL :(a8 (aI [] Tryz.f123) (fun _=>none) Tryz.f123 q0V Tg ()).sat fun z_=>z_ =(sNt ()).2:=by refine cast (by kernel_rfl) (?_ :([ByteArray.mk #[78,79,84,79,85,84],ByteArray.mk #[66,79,87,76,69,68],ByteArray.mk #[67,65,85,71,72,84],ByteArray.mk #[76,66,87],ByteArray.mk #[83,84,85,77,80,69,68],ByteArray.mk #[72,73,84,87,73,67,75,69,84],ByteArray.mk #[82,85,78,79,85,84],ByteArray.mk #[72,73,84,84,87,73,67,69],ByteArray.mk #[79,66,83,84,82,85,67,84,73,78,71],ByteArray.mk #[84,73,77,69,68,79,85,84],ByteArray.mk #[82,69,84,73,82,69,68]],()) =(FW,()));rfl
def k64:FuncId×dR:=(123,ax KE q0V Tg sNt)
theorem aeE:aR Tryz.prog KE 123 (ax KE q0V Tg sNt):=by
 refine bh (C:=aI [] Tryz.f123) (az (aZ.nil) _) mixed (fn:=Tryz.f123) Tryz.func123 (by kernel_rfl) (by kernel_rfl) (by kernel_rfl) (by kernel_rfl) (by kernel_rfl) (by kernel_rfl) (Λ:=fun _ _=>none) ?_ ?_
 ·exact fun _ _ _ _ _ _ _ _ h=>by cases h
 ·rintro ⟨⟩ hw hn
  exact abL
theorem abI (h:Int) (h0:0<=h) :(a8 (aI [k64] Tryz.f75) (fun _=>none) Tryz.f75 qHw Tb (h,())).sat fun z_=>z_ =(I3 (h,())).2:=by
 refine cast (by kernel_rfl) (?_:let r1:Bool:=decide (h>10);(r1=true->(ByteArray.mk #[],()) =(FR h,()))/\(r1=false->(0<=h/\h <(↑FW.length:Int))/\(FW.getD h.toNat (af Ty.str),()) =(FR h,())));intro r1
 clear_value (hr1:r1=_)
 refine ⟨fun h1=>?_,fun h1=>?_⟩
 ·have h1:h>10:=of_decide_eq_true (hr1▸h1)
  have:ei.find? (fun w=>w.how==h)=none:=by rw [List.find?_eq_none];intro x hx;simp only [ei,List.mem_cons,List.not_mem_nil,or_false] at hx;rcases hx with rfl|rfl|rfl|rfl|rfl|rfl|rfl|rfl|rfl|rfl|rfl <;> simp <;> omega
  unfold FR mj;rw [this];rfl
 ·have h1 :¬ h>10:=of_decide_eq_false (hr1▸h1);have hl:FW.length=11:=rfl;refine ⟨⟨h0,by omega⟩,?_⟩
  have:h=0\/h=1\/h=2\/h=3\/h=4\/h=5\/h=6\/h=7\/h=8\/h=9\/h=10:=by omega
  rcases this with rfl|rfl|rfl|rfl|rfl|rfl|rfl|rfl|rfl|rfl|rfl <;> rfl
def k26:FuncId×dR:=(75,ax KE qHw Tb I3)
theorem aeC:aR Tryz.prog KE 75 (ax KE qHw Tb I3):=by
 refine bh (C:=aI [k64] Tryz.f75) (az (.aP aeE rfl .nil) _) mixed (fn:=Tryz.f75) Tryz.func75 (by kernel_rfl) (by kernel_rfl) (by kernel_rfl) (by kernel_rfl) (by kernel_rfl) (by kernel_rfl) (Λ:=fun _ _=>none) ?_ ?_
 ·exact fun _ _ _ _ _ _ _ _ h=>by cases h
 ·rintro ⟨h,⟨⟩⟩ hw hn
  exact abI h (acj (gD hw)).1
abbrev MZ:Ty:= .nm .ak
abbrev ze:Ty:= .slice MZ
abbrev HR:List (Nat×PB):= [(0,.dat MZ)]
def cx (y x:aa.ak):Bool:=x.Player==y.Player
abbrev Tt:bl:=⟨[(0,.h MZ),(1,.c (.ptr 0 0))],HR,1⟩
abbrev uX:bl:=⟨[(0,.h .bool)],HR,1⟩
def YU:Den (bj Tt)->List Prop×Den (bj uX):=fun x=>([],(cx x.2.1 x.1,x.2.1,()))
def vj {α:Type} (p:α->Bool):List α->Int->Option Int
 | [],_=>none
 | x::r,i=>if p x then some i else vj p r (i+1)
abbrev qIS (f:Nat):bl:=⟨[(0,.h ze),(1,.c (.fn f [.ptr 0 0])),(7,.h I),(8,.h I)],HR,1⟩
abbrev xIS:List (Lf×bl):= [(.ret,⟨[(4,.h I)],HR,1⟩),(.ext 0,⟨[],HR,1⟩)]
abbrev TIS:Type:=List aa.ak×Int×Int×aa.ak×Unit
def Ag (x:TIS):Prop:=x.2.1=x.1.length/\0<=x.2.2.1/\x.2.2.1<=x.2.1/\x.1.length<=aW
def Mi (x:TIS):Nat:=(x.2.1 - x.2.2.1).toNat
def aa9 (m:aa.ak):Option Int->Sum (Int×aa.ak×Unit) (aa.ak×Unit)
 | some k=> .inl (k,m,())
 | none=> .inr (m,())
def lk (x:TIS):Sum (Int×aa.ak×Unit) (aa.ak×Unit):=aa9 x.2.2.2.1 (vj (cx x.2.2.2.1) (x.1.drop x.2.2.1.toNat) x.2.2.1)
abbrev US (f:Nat):bl:=⟨[(0,.h ze),(1,.c (.fn f [.ptr 0 0]))],HR,1⟩
abbrev Td:bl:=⟨[(0,.h I)],HR,1⟩
def YS (f:Nat):Den (bj (US f))->List Prop×Den (bj Td):=fun x=>([],(sr (vj (cx x.2.1) x.1 0),x.2.1,()))
def YG (f:Nat):Den (bj (US f))->List Prop×Den (bj uX):=fun x=>([],(x.1.any (cx x.2.1),x.2.1,()))
abbrev hpD:List (Nat×PB):= [(0,.dat (.nm .aj)),(1,.dat (.nm .ay))]
abbrev aa0:List (Nat×PB):= [(0,.dat (.nm .aj)),(1,.dat (.nm .ay)),(2,.dat MZ)]
abbrev tmD:List (Nat×PC):= [(2,.c (.ptr 0 0)),(3,.c (.ptr 1 0))]
abbrev ZT:List (Nat×PC):= [(12,.h ze),(13,.h I),(14,.h I)]
abbrev acp:Lf×bl:=(.ret,⟨[(4,.h I)],[],0⟩)
abbrev qD0:bl:=⟨tmD++ZT++[(6,.c (.ptr 2 0)),(36,.h (.slice .str)),(37,.h I),(38,.h I)],aa0,3⟩
abbrev xD0:List (Lf×bl):= [(.ext 2,⟨tmD++ZT++[(6,.c (.ptr 2 0))],aa0,3⟩),acp]
abbrev TD0:Type:=List aa.ak×Int×Int×List ByteArray×Int×Int×aj×aa.ay×aa.ak×Unit
abbrev TDx:Type:=List aa.ak×Int×Int×aj×aa.ay×aa.ak×Unit
def lj:TD0->Sum TDx (Int×Unit)
 |(l,n,i,s,_,j,r,b,x,_)=>if (s.drop j.toNat).any (fun w=>!(cd w).2) then .inr (4,()) else .inl (l,n,i,r,b,x,())
def zY:TD0->Prop
 |(_,_,_,s,m,j,_)=>(m =(s.length:Int)/\s.length<=4000)/\(0<=j/\j<=m)
def OX:TD0->Nat
 |(_,_,_,_,m,j,_)=>(m - j).toNat
abbrev qD1:bl:=⟨tmD++ZT,hpD,2⟩
abbrev xD1:List (Lf×bl):= [(.ext 0,⟨[],[],0⟩),acp]
abbrev TD1:Type:=List aa.ak×Int×Int×aj×aa.ay×Unit
def Dk (e:Int):Sum Unit (Int×Unit):=if e==0 then .inl () else .inr (e,())
def kA:TD1->Sum Unit (Int×Unit)
 |(l,_,i,r,_,_)=>Dk (bb r (l.take i.toNat) (l.drop i.toNat))
def wS:TD1->Prop
 |(l,n,i,_,b,_)=>(n =(l.length:Int)/\xY l)/\(0<=i/\i<=n)/\b.Strips=l
def Ia:TD1->Nat
 |(_,n,i,_)=>(n - i).toNat
abbrev vp:bl:=cQ [I]
def YK:Den (bj ns)->List Prop×Den (bj vp):=fun x=>([xY x.2.1.Strips],(bb x.1 [] x.2.1.Strips,()))
theorem EY {α:Type} {p:α->Bool} :∀ {l:List α} {i:Int},(vj p l i).isSome=l.any p
 | [],_=>rfl
 | x::r,i=>by
  simp only [vj,List.any_cons]
  cases hp:p x with
  | true=>simp
  | false=>simpa using EY
theorem NW {α:Type} {p:α->Bool} :∀ {l:List α} {i k:Int},vj p l i=some k->i<=k
 | [],_,_,h=>by simp [vj] at h
 | x::r,i,k,h=>by
  simp only [vj] at h;split at h
  ·cases h;exact Int.le_refl _
  ·have:=NW h;omega
theorem xO (x:aa.ak) (y:aa.ak) :(a8 (aI [] Tryz.f119) (fun _=>none) Tryz.f119 Tt uX (x,y,())).sat fun z_=>z_ =(YU (x,y,())).2:=by refine cast (by kernel_rfl) (?_ :(x.1==y.1,y,()) =(cx y x,y,()));rfl
def nf:FuncId×dR:=(119,ax KE Tt uX YU)
theorem qp:aR Tryz.prog KE 119 (ax KE Tt uX YU):=by
 refine bh (C:=aI [] Tryz.f119) (az (aZ.nil) _) mixed (fn:=Tryz.f119) Tryz.func119 (by kernel_rfl) (by kernel_rfl) (by kernel_rfl) (by kernel_rfl) (by kernel_rfl) (by kernel_rfl) (Λ:=fun _ _=>none) ?_ ?_
 ·exact fun _ _ _ _ _ _ _ _ h=>by cases h
 ·rintro ⟨x,y,⟨⟩⟩ hw hn
  exact xO x y
noncomputable def A0:Lp:=(⟨1,aI [nf] Tryz.f90,(fun _=>none),(aC Tryz.f90 0),(qIS 119),xIS⟩:Lp)
theorem TW (xs:List aa.ak) (n:Int) (i:Int) (m:aa.ak) (hi:Ag (xs,n,i,m,())) :(Go.aa.stepG A0 lk (fun y:Den (bj A0.q)=>Ag y/\Mi y<Mi (xs,n,i,m,())) (xs,n,i,m,())/\Go.aa.bB A0 lk (xs,n,i,m,())=lk (xs,n,i,m,())):=by
 refine cast (by kernel_rfl) (?_ :((decide (i<n)=true->(0<=i/\i <(↑xs.length:Int))/\(cx m (xs.getD i.toNat (af (Ty.nm Nm.ak)))=true->True)/\(cx m (xs.getD i.toNat (af (Ty.nm Nm.ak)))=false->Ag (xs,n,IntKind.i64.wrap (i+1),m,())/\Mi (xs,n,IntKind.i64.wrap (i+1),m,())<Mi (xs,n,i,m,())))/\(decide (i<n)=false->True))/\(cond (decide (i<n)) (cond (cx m (xs.getD i.toNat (af (Ty.nm Nm.ak)))) (Sum.inl (i,m,())) (lk (xs,n,IntKind.i64.wrap (i+1),m,()))) (Sum.inr (m,())))=lk (xs,n,i,m,()));obtain ⟨h1,h2,h3,h4⟩:=hi;simp only at h1 h2 h3 h4;have h5 :(xs.length:Int)<=140737488355328:=by have:xs.length<=140737488355328:=h4;omega
 refine dP (fun h=>?_) (fun h=>?_)
 ·rw [bE (n:=i+1) (by omega) (by omega)];have e:xs.drop i.toNat=xs.getD i.toNat (af (Ty.nm Nm.ak))::xs.drop (i+1).toNat:=aY h2 (by omega) _;generalize xs.getD i.toNat (af (Ty.nm Nm.ak))=v at e ⊢;refine ⟨⟨⟨h2,by omega⟩,fun _=>trivial,fun _=>⟨⟨h1,by simp only;omega,by simp only;omega,h4⟩,by simp only [Mi];omega⟩⟩,?_⟩;simp only [lk,e,vj];cases cx m v <;> rfl
 ·simp only [lk];rw [aN (l:=xs) (by omega)];rfl
noncomputable def QK:aw:=aq A0 lk Ag
noncomputable def P4:Nat:=fo (aC Tryz.f90 0)
theorem SA:aJ Tryz.prog 1 Tryz.f90.ntmps (aC Tryz.f90 0) (aq A0 lk Ag):=
 aD A0 (az (.aP qp rfl .nil) _) mixed (fun b hb S hS=>by cases hS) lk Ag Mi (fun |⟨xs,n,i,m,⟨⟩⟩,hi=>TW xs n i m hi)
theorem Qe (xs:List aa.ak) (m:aa.ak) (hx:xs.length<=aW) :(a8 (aI [nf] Tryz.f90) (find [(P4,QK)]) Tryz.f90 (US 119) Td (xs,m,())).sat fun z_=>z_ =((YS 119) (xs,m,())).2:=by
 refine cast (by kernel_rfl) (?_:let r1:Bool:=wV (lk (xs,(↑xs.length:Int),0,m,()));((cq fun x=>none)/\(↑xs.length:Int) =(↑xs.length:Int)/\(0:Int)<=0/\0<=(↑xs.length:Int)/\xs.length<=aW)/\(r1=true->mV (af (I.prod (MZ.prod Ty.unit))) (lk (xs,(↑xs.length:Int),0,m,())) =(sr (vj (cx m) xs 0),m,()))/\(r1=false->((-1:Int),jL (af (MZ.prod Ty.unit)) (lk (xs,(↑xs.length:Int),0,m,()))) =(sr (vj (cx m) xs 0),m,())));intro r1
 clear_value (hr1:r1=_)
 have e:lk (xs,(xs.length:Int),0,m,())=aa9 m (vj (cx m) xs 0):=rfl;rw [e] at hr1 ⊢;refine ⟨⟨rfl,rfl,Int.le_refl _,by omega,hx⟩,fun h=>?_,fun h=>?_⟩ <;> cases hf:vj (cx m) xs 0 <;> rw [hr1,hf] at h <;> first|rfl|cases h
def Ox:FuncId×dR:=(90,ax KE (US 119) Td (YS 119))
theorem SW:aR Tryz.prog KE 90 (ax KE (US 119) Td (YS 119)):=by
 refine bh (C:=aI [nf] Tryz.f90) (az (.aP qp rfl .nil) _) mixed (fn:=Tryz.f90) Tryz.func90 (by kernel_rfl) (by kernel_rfl) (by kernel_rfl) (by kernel_rfl) (by kernel_rfl) (by kernel_rfl) (Λ:=fun x=>find [(P4,QK)]) ?_ ?_
 ·rintro ⟨xs,m,⟨⟩⟩ hw hn
  exact aL.at (by kernel_rfl) (.cons (by kernel_rfl) (SA) .nil)
 ·rintro ⟨xs,m,⟨⟩⟩ hw hn
  exact Qe xs m (mI (gD hw))
theorem Qc (xs:List aa.ak) (m:aa.ak) :(a8 (aI [Ox] Tryz.f118) (fun _=>none) Tryz.f118 (US 119) uX (xs,m,())).sat fun z_=>z_ =((YG 119) (xs,m,())).2:=by
 refine cast (by kernel_rfl) (?_ :(decide (sr (vj (cx m) xs 0)>=0),m,()) =(xs.any (cx m),m,()));have e:=EY (p:=cx m) (l:=xs) (i:=0);rw [<-e]
 cases hf:vj (cx m) xs 0 with
 | none=>rfl
 | some k=>
  have:=NW hf
  simp [this,sr]
def Xd:FuncId×dR:=(118,ax KE (US 119) uX (YG 119))
theorem SU:aR Tryz.prog KE 118 (ax KE (US 119) uX (YG 119)):=by
 refine bh (C:=aI [Ox] Tryz.f118) (az (.aP SW rfl .nil) _) mixed (fn:=Tryz.f118) Tryz.func118 (by kernel_rfl) (by kernel_rfl) (by kernel_rfl) (by kernel_rfl) (by kernel_rfl) (by kernel_rfl) (Λ:=fun _ _=>none) ?_ ?_
 ·exact fun _ _ _ _ _ _ _ _ h=>by cases h
 ·rintro ⟨xs,m,⟨⟩⟩ hw hn
  exact Qc xs m
noncomputable def LM:Lp:=(⟨0,aI [mg] Tryz.f69,(fun _=>none),(bA Tryz.f69 0 0),qD0,xD0⟩:Lp)
theorem Zc (l:List aa.ak) (n:Int) (i:Int) (s:List ByteArray) (m:Int) (j:Int) (r:aj) (b:aa.ay) (x:aa.ak) (hi:zY (l,n,i,s,m,j,r,b,x,())) :(Go.aa.stepG LM lj (fun y:Den (bj LM.q)=>zY y/\OX y<OX (l,n,i,s,m,j,r,b,x,())) (l,n,i,s,m,j,r,b,x,())/\Go.aa.bB LM lj (l,n,i,s,m,j,r,b,x,())=lj (l,n,i,s,m,j,r,b,x,())):=by
 refine cast (by kernel_rfl) (?_ :((decide (j<m)=true->(0<=j/\j <(↑s.length:Int))/\((!(cd (s.getD j.toNat (af Ty.str))).2)=true->True)/\((!(cd (s.getD j.toNat (af Ty.str))).2)=false->zY (l,n,i,s,m,IntKind.i64.wrap (j+1),r,b,x,())/\OX (l,n,i,s,m,IntKind.i64.wrap (j+1),r,b,x,())<OX (l,n,i,s,m,j,r,b,x,())))/\(decide (j<m)=false->True))/\(cond (decide (j<m)) (cond (!(cd (s.getD j.toNat (af Ty.str))).2) (Sum.inr (4,())) (lj (l,n,i,s,m,IntKind.i64.wrap (j+1),r,b,x,()))) (Sum.inl (l,n,i,r,b,x,())))=lj (l,n,i,s,m,j,r,b,x,()));obtain ⟨⟨h1,h1b⟩,h2,h3⟩:=hi;have h1:m =(s.length:Int):=h1;have h1b:s.length<=4000:=h1b;have h2:0<=j:=h2;have h3:j<=m:=h3;refine dP (fun h=>?_) (fun h=>?_)
 ·have e1:IntKind.i64.wrap (j+1)=j+1:=a7 (by omega) (by omega);have hd:s.drop j.toNat=s.getD j.toNat (af Ty.str)::s.drop (j+1).toNat:=aY h2 (by omega) _;generalize s.getD j.toNat (af Ty.str)=w at *;rw [e1];refine ⟨⟨⟨h2,by omega⟩,fun _=>trivial,fun _=>⟨⟨⟨h1,h1b⟩,?_,?_⟩,?_⟩⟩,?_⟩
  ·show 0<=j+1;omega
  ·show j+1<=m;omega
  ·show (m - (j+1)).toNat <(m - j).toNat;omega
  ·unfold lj;simp only;rw [hd,List.any_cons];cases (cd w).2 <;> rfl
 ·unfold lj;simp only;rw [aN (l:=s) (by omega)];rfl
noncomputable def ab1:aw:=aq LM lj zY
noncomputable def abC:Nat:=fo (bA Tryz.f69 0 0)
theorem Xu:aJ Tryz.prog 0 Tryz.f69.ntmps (bA Tryz.f69 0 0) (aq LM lj zY):=
 aD LM (az (.aP jV rfl .nil) _) mixed (fun b hb S hS=>by cases hS) lj zY OX (fun |⟨l,n,i,s,m,j,r,b,x,⟨⟩⟩,hi=>Zc l n i s m j r b x hi)
noncomputable def LN:Lp:=(⟨0,aI [mg,Xd,k25,Xf] Tryz.f69,(find [(abC,ab1)]),(aC Tryz.f69 0),qD1,xD1⟩:Lp)
theorem Zd (l:List aa.ak) (n:Int) (i:Int) (r:aj) (b:aa.ay) (hi:wS (l,n,i,r,b,())) :(Go.aa.stepG LN kA (fun y:Den (bj LN.q)=>wS y/\Ia y<Ia (l,n,i,r,b,())) (l,n,i,r,b,())/\Go.aa.bB LN kA (l,n,i,r,b,())=kA (l,n,i,r,b,())):=by
 refine cast (by kernel_rfl) (?_:let r1:Int:=(↑(l.getD i.toNat (af (Ty.nm Nm.ak))).2.length:Int);let r2:Bool:=(List.drop (Int.toNat 0) (List.take i.toNat b.3)).any (cx (l.getD i.toNat (af (Ty.nm Nm.ak))));let r3:Bool:=cond (decide ((l.getD i.toNat (af (Ty.nm Nm.ak))).1<1)) true (decide ((l.getD i.toNat (af (Ty.nm Nm.ak))).1>r.2));let r4:Bool:=wV (lj (l,n,i,(l.getD i.toNat (af (Ty.nm Nm.ak))).2,r1,0,r,b,l.getD i.toNat (af (Ty.nm Nm.ak)),()));let r5:List aa.ak×Int×Int×aj×aa.ay×aa.ak×PUnit:=mV (af (ze.prod (I.prod (I.prod ((Ty.nm Nm.aj).prod ((Ty.nm Nm.ay).prod (MZ.prod Ty.unit))))))) (lj (l,n,i,(l.getD i.toNat (af (Ty.nm Nm.ak))).2,r1,0,r,b,l.getD i.toNat (af (Ty.nm Nm.ak)),()));let r6:Bool:=eI r5.2.2.2.2.2.1.3;let r7:Bool:=(mj r5.2.2.2.2.2.1.3).2.toList ==(ByteArray.mk #[]).toList;let r8:Bool:=cond r6 (cond (decide (r5.2.2.2.2.2.1.4<1)) true (decide (r5.2.2.2.2.2.1.4>r5.2.2.2.1.2))) false;let r9:Bool:=cond r8 r8 (cond (!r6) (r5.2.2.2.2.2.1.4 != 0) false);((decide (i<n)=true->(0<=i/\i <(↑l.length:Int))/\(r3=true->True)/\(r3=false->((0:Int)<=0/\0<=i/\i<=(↑b.3.length:Int))/\(r2=true->True)/\(r2=false->((cq fun x=>none)/\(r1 =(↑(l.getD i.toNat (af (Ty.nm Nm.ak))).2.length:Int)/\(l.getD i.toNat (af (Ty.nm Nm.ak))).2.length<=(4000:Nat))/\(0:Int)<=0/\0<=r1)/\(r4=true->(r7=true->True)/\(r7=false->(r9=true->True)/\(r9=false->wS (r5.1,r5.2.1,IntKind.i64.wrap (r5.2.2.1+1),r5.2.2.2.1,r5.2.2.2.2.1,())/\Ia (r5.1,r5.2.1,IntKind.i64.wrap (r5.2.2.1+1),r5.2.2.2.1,r5.2.2.2.2.1,())<Ia (l,n,i,r,b,()))))/\(r4=false->True))))/\(decide (i<n)=false->True))/\(cond (decide (i<n)) (cond r3 (Sum.inr (2,())) (cond r2 (Sum.inr (7,())) (cond r4 (cond r7 (Sum.inr (3,())) (cond r9 (Sum.inr (1,())) (kA (r5.1,r5.2.1,IntKind.i64.wrap (r5.2.2.1+1),r5.2.2.2.1,r5.2.2.2.2.1,())))) (Sum.inr (jL (af (I.prod Ty.unit)) (lj (l,n,i,(l.getD i.toNat (af (Ty.nm Nm.ak))).2,r1,0,r,b,l.getD i.toNat (af (Ty.nm Nm.ak)),()))))))) (Sum.inl ()))=kA (l,n,i,r,b,()));intro r1 r2 r3 r4 r5 r6 r7 r8 r9
 clear_value (hr1:r1=_) (hr2:r2=_) (hr3:r3=_) (hr4:r4=_) (hr5:r5=_) (hr6:r6=_) (hr7:r7=_) (hr8:r8=_) (hr9:r9=_)
 obtain ⟨⟨h1,h1a,h1b⟩,⟨h2,h3⟩,hbl⟩:=hi;have h1:n =(l.length:Int):=h1;have h1a:l.length<=4000:=h1a;have h2:0<=i:=h2;have h3:i<=n:=h3;have hbl:b.Strips=l:=hbl;refine dP (fun h=>?_) (fun h=>?_)
 ·have e1:IntKind.i64.wrap (i+1)=i+1:=a7 (by omega) (by omega);have hd:l.drop i.toNat=l.getD i.toNat (af (Ty.nm Nm.ak))::l.drop (i+1).toNat:=aY h2 (by omega) _;have ht:l.take (i+1).toNat=l.take i.toNat++[l.getD i.toNat (af (Ty.nm Nm.ak))]:=pV h2 (by omega) _;have hm:l.getD i.toNat (af (Ty.nm Nm.ak))∈l:=List.mem_of_mem_drop (i:=i.toNat) (by rw [hd];exact List.mem_cons_self);have hx:=h1b _ hm;generalize l.getD i.toNat (af (Ty.nm Nm.ak))=x at *;have e0:lj (l,n,i,x.2,r1,0,r,b,x,())=if x.Symbols.any (fun w=>!(cd w).2) then .inr (4,()) else .inl (l,n,i,r,b,x,()):=rfl;rw [e0] at hr4 hr5 ⊢;have h20:r2 =(l.take i.toNat).any (cx x):=by rw [hr2,hbl];rfl
  have e5:x.Symbols.any (fun w=>!(cd w).2)=false->r5 =(l,n,i,r,b,x,()):=fun hz=>by rw [hr5,hz];rfl
  have e4:r4=!x.Symbols.any (fun w=>!(cd w).2):=by rw [hr4];cases x.Symbols.any (fun w=>!(cd w).2) <;> rfl
  have key:kA (l,n,i,r,b,())=bif r3 then .inr (2,()) else bif r2 then .inr (7,()) else bif r4 then (bif qZ x.How then .inr (3,()) else bif (eI x.How&&(decide (x.Bowler<1)||decide (x.Bowler>r.Side))||!eI x.How&&x.Bowler != 0) then .inr (1,()) else kA (l,n,i+1,r,b,())) else .inr (4,()):=by
   have e3:r3 =(decide (x.Player<1)||decide (x.Player>r.Side)):=by rw [hr3];cases decide (x.Player<1) <;> rfl
   show Dk (bb r (l.take i.toNat) (l.drop i.toNat))=_;rw [hd,bb]
   have e6:kA (l,n,i+1,r,b,())=Dk (bb r (l.take i.toNat++[x]) (l.drop (i+1).toNat)):=by show Dk (bb r (l.take (i+1).toNat) (l.drop (i+1).toNat))=_;rw [ht]
   rw [e6,e3,h20,e4]
   have es:cW r (l.take i.toNat) x=bif (decide (x.Player<1)||decide (x.Player>r.Side)) then 2 else bif (l.take i.toNat).any (cx x) then 7 else bif x.Symbols.any (fun s=>!(cd s).2) then 4 else bif qZ x.How then 3 else bif (eI x.How&&(decide (x.Bowler<1)||decide (x.Bowler>r.Side))||!eI x.How&&x.Bowler != 0) then 1 else 0:=by
    have cf :∀ (c:Bool) (a b:Int),(if c then a else b)=bif c then a else b:=fun c a b=>by cases c <;> rfl
    unfold cW;rw [cf,cf,cf,cf,cf];rfl
   rw [es]
   cases (decide (x.Player<1)||decide (x.Player>r.Side)) with
   | true=>rfl
   | false=>
    cases (l.take i.toNat).any (cx x) with
    | true=>rfl
    | false=>
     cases x.Symbols.any (fun w=>!(cd w).2) with
     | true=>rfl
     | false=>
      cases qZ x.How with
      | true=>rfl
      | false=>cases (eI x.How&&(decide (x.Bowler<1)||decide (x.Bowler>r.Side))||!eI x.How&&x.Bowler != 0) <;> rfl
  rw [key];have hm1:Ia (l,n,i+1,r,b,())<Ia (l,n,i,r,b,()):=by show (n - (i+1)).toNat <(n - i).toNat;omega
  have hi1:wS (l,n,i+1,r,b,()):=⟨⟨h1,h1a,h1b⟩,⟨by show 0<=i+1;omega,by show i+1<=n;omega⟩,hbl⟩
  cases hz:x.Symbols.any (fun w=>!(cd w).2) with
  | true=>
   have e4:r4=false:=by rw [e4,hz];rfl
   rw [e4];refine ⟨⟨⟨h2,by omega⟩,fun _=>trivial,fun _=>⟨⟨Int.le_refl _,h2,by rw [hbl];omega⟩,fun _=>trivial,fun _=>⟨⟨rfl,⟨hr1,hx⟩,Int.le_refl _,by omega⟩,fun z=>Bool.noConfusion z,fun _=>trivial⟩⟩⟩,rfl⟩
  | false=>
   have e4:r4=true:=by rw [e4,hz];rfl
   have e5:=e5 hz;subst e5;clear hr5;dsimp only at *;have e7:r7=qZ x.How:=hr7
   have e9:r9 =(eI x.How&&(decide (x.Bowler<1)||decide (x.Bowler>r.Side))||!eI x.How&&x.Bowler != 0):=by rw [hr9,hr8,hr6];cases eI x.How <;> cases decide (x.Bowler<1) <;> cases decide (x.Bowler>r.Side) <;> cases x.Bowler != 0 <;> rfl
   rw [e4,<-e7,<-e9,e1];refine ⟨⟨⟨h2,by omega⟩,fun _=>trivial,fun _=>⟨⟨Int.le_refl _,h2,by rw [hbl];omega⟩,fun _=>trivial,fun _=>⟨⟨rfl,⟨hr1,hx⟩,Int.le_refl _,by omega⟩,fun _=>⟨fun _=>trivial,fun _=>⟨fun _=>trivial,fun _=>⟨hi1,hm1⟩⟩⟩,fun z=>Bool.noConfusion z⟩⟩⟩,rfl⟩
 ·unfold kA;simp only;rw [aN (l:=l) (by omega)];rfl
noncomputable def Vz:aw:=aq LN kA wS
noncomputable def UZ:Nat:=fo (aC Tryz.f69 0)
theorem Xv:aJ Tryz.prog 0 Tryz.f69.ntmps (aC Tryz.f69 0) (aq LN kA wS):=
 aD LN (az (.aP jV rfl (.aP SU rfl (.aP aeB rfl (.aP S2 rfl .nil)))) _) mixed (aL.cons (by kernel_rfl) Xu .nil) kA wS Ia (fun |⟨l,n,i,r,b,⟨⟩⟩,hi=>Zd l n i r b hi)
theorem yY (r:aj) (b:aa.ay) (hb:xY b.Strips) :(a8 (aI [] Tryz.f69) (find [(UZ,Vz)]) Tryz.f69 ns vp (r,b,())).sat fun z_=>z_ =(YK (r,b,())).2:=by
 refine cast (by kernel_rfl) (?_:let r1:Bool:=wV (kA (b.3,(↑b.3.length:Int),0,r,b,()));((cq fun x=>none)/\((↑b.3.length:Int) =(↑b.3.length:Int)/\xY b.3)/\((0:Int)<=0/\0<=(↑b.3.length:Int))/\b.3=b.3)/\(r1=true->(0,()) =(bb r [] b.3,()))/\(r1=false->jL (af (I.prod Ty.unit)) (kA (b.3,(↑b.3.length:Int),0,r,b,())) =(bb r [] b.3,())));intro r1
 clear_value (hr1:r1=_)
 have e:kA (b.Strips,(b.Strips.length:Int),0,r,b,())=Dk (bb r [] b.Strips):=rfl;have h1:r1=wV (Dk (bb r [] b.Strips)):=by rw [hr1,<-e]
 refine ⟨⟨rfl,⟨rfl,hb⟩,⟨Int.le_refl _,by omega⟩,rfl⟩,fun h=>?_,fun h=>?_⟩
 ·rw [h1] at h;unfold Dk at h;by_cases hz:bb r [] b.Strips=0
  ·rw [hz]
  ·rw [if_neg (by simpa using hz)] at h;cases h
 ·rw [h1] at h;show jL _ (Dk (bb r [] b.Strips))=_;unfold Dk at h ⊢;by_cases hz:bb r [] b.Strips=0
  ·rw [if_pos (by simpa using hz)] at h;cases h
  ·rw [if_neg (by simpa using hz)];rfl
def uM:FuncId×dR:=(69,ax KE ns vp YK)
theorem Dd:aR Tryz.prog KE 69 (ax KE ns vp YK):=by
 refine bh (C:=aI [] Tryz.f69) (az (aZ.nil) _) mixed (fn:=Tryz.f69) Tryz.func69 (by kernel_rfl) (by kernel_rfl) (by kernel_rfl) (by kernel_rfl) (by kernel_rfl) (by kernel_rfl) (Λ:=fun x=>find [(UZ,Vz)]) ?_ ?_
 ·rintro ⟨r,b,⟨⟩⟩ hw hn
  exact aL.at (by kernel_rfl) (.cons (by kernel_rfl) (Xv) .nil)
 ·rintro ⟨r,b,⟨⟩⟩ hw hn
  exact yY r b (hn _ List.mem_cons_self)
end
end Go.Proofs.YtjcbhomccohklaaGreatDoor
