/- BoxbookParses: for every two texts, each cut at 400 bytes, the law returns true: Parse gives what the reference gives, and the books are compared alike. The card: the tables and errors of the library that the row lists are tied to the text of the program. No condition beyond the row. -/
import Derived.Test.YtffdpnmioidloaaGreatDoorPL8
import Derived.Test.YtffdpnmioidloaaGreatDoorCards
import Derived.SizedLaws
import Derived.LaidMore
import Derived.SevenTiedAt
import Derived.OpenShut
import Derived.ProofKit
namespace Go.Proofs.YtffdpnmioidloaaGreatDoor
open Go Go.Mir Go.ChangeShapes Go.WideShapes Go.ChangeAt Go.RowKit
attribute [local irreducible] Go.Mir.RT.sat Go.Mir.evFn Go.Mir.stepObl
theorem Mj:laidOutB Tryz.prog=true:=by kernel_rfl
theorem Rc {α:Type} {ds:List α} (h:ds.length=2) :∃ a b,ds=[a,b]:=by
 match ds,h with
 | [a,b],_=>exact ⟨a,b,rfl⟩
set_option maxRecDepth 100000 in
theorem lF (os:Os) (started:os.Started) (H:Type) (enc:TypeId×Value→H) :
  ReturnsInHanded {} Tryz.checked os 4 .any (fun w args=>(Rows.boxbookParsesSpec.pre enc Tryz.prog Tryz.f4 [] false w args∧laidMetH Tryz.prog lz w)∧sizedMet enc Tryz.prog Tryz.f4 (OpenSpec.ofChange Rows.boxbookParsesSpec) false w args)
   (Rows.boxbookParsesSpec.post enc Tryz.prog Tryz.f4 false true false false):=by
 refine n3 (C:=Tryz.checked) (X:=fun w _=>laidMetH Tryz.prog lz w) (fun _ _ _ hh h=>h.of_heap hh) SG started (by kernel_rfl) Tryz.func4
  (ChangeSpec.witness_shaped (enc:=enc) (C:=Tryz.checked) (os:=os) (X:=fun w _=>laidMetH Tryz.prog lz w) false (World.laidAll Tryz.prog os lz) #[.string { data:=#[] },.string { data:=#[] }] 8 (World.laidAll_os _ _ _) (World.shaped_of_ZipB (by kernel_rfl) (by kernel_rfl)) (by kernel_rfl) (by kernel_rfl) (by kernel_rfl) (Fx os _)) ?_
 intro W base args ds gs before hval hW _ hsz hX hsh _
 have hW':=hW
 obtain ⟨p,q,hA,hV,rfl,_,_⟩:=hW'
 obtain ⟨rfl,rfl⟩:=trodVars_none hV
 have hw :∀ m∈DataW.weightsEach Tryz.prog Tryz.f4.params.toList ds,m≤au:=fun m hm=>by
  have e:DataW.weightsEach Tryz.checked.prog (Tryz.f4.params.toList++Rows.boxbookParsesSpec.plain.varTypes Tryz.checked.prog) (ds++[])=DataW.weightsEach Tryz.prog Tryz.f4.params.toList ds:=by
   rw [List.append_nil];kernel_rfl
  rw [e] at hsz
  have h1:=List.all_eq_true.1 hsz m hm
  have h2:m≤reachBytes:=by simpa using h1
  exact Nat.le_trans h2 (of_decide_eq_true (by kernel_rfl))
 have hlen:ds.length=2:=by
  obtain ⟨_,_,_,_,_,h⟩:=oU (ps:=(.prod .str (.prod .str .unit))) hA (by kernel_rfl) (fun j t v h1 h2=>⟨_,_,hval j t v (Array.getElem?_toList.symm.trans h1) (Array.getElem?_toList.symm.trans h2)⟩) hw
  exact h
 refine (Cs AI (fn:=Tryz.f4) (ps:=(.prod .str (.prod .str .unit))) (by kernel_rfl) (KO hX hsh) (by rintro ⟨s,t,⟨⟩⟩ hw;exact ⟨[],by kernel_rfl,fun p hp=>by cases hp⟩) hA (fun j t v h1 h2=>⟨_,_,hval j t v h1 h2⟩) hw).mono fun e W' hr=>?_
 obtain ⟨rfl,hk⟩:=hr
 refine ⟨_,rfl,H6 Mj (TB:=4) (by kernel_rfl) Tryz.underlying4 ?_ rfl hW ?_ hk⟩
 ·have h :(Tryz.f4.params.toList.all fun t=>Tryz.prog.readableRec t&&decide (t<Tryz.prog.types.size))=true:=by kernel_rfl
  intro t ht
  have:=List.all_eq_true.1 h t ht
  simpa using this
 ·obtain ⟨a,b,rfl⟩:=Rc hlen
  exact ⟨rfl,rfl,rfl⟩
theorem j1:laidOutB Tryz.prog=true:=Mj
theorem j2:mapsRowed Tryz.prog=true:=by kernel_rfl
theorem j3 :(Rows.boxbookParsesRow.inPlace==Tryz.prog.inPlace 4)=true:=by kernel_rfl
theorem j4 :(Rows.boxbookParsesRow.unfollowed==Tryz.prog.unfollowed 4)=true:=by kernel_rfl
theorem j5 :(Rows.boxbookParsesRow.recurses==Tryz.prog.recurses 4)=true:=by kernel_rfl
theorem j6 :(Rows.boxbookParsesRow.named==Tryz.prog.varsNamed 4)=true:=by kernel_rfl
theorem j7:Tryz.prog.stopsHeard=true:=by kernel_rfl
theorem j8:Tryz.prog.mayEnter=true:=by kernel_rfl
theorem j9 :(Rows.boxbookParsesRow.lifted==Tryz.prog.liftsFinal)=true:=by kernel_rfl
theorem j10 :(Tryz.prog.make==some Rows.boxbookParsesRow.make)=true:=by kernel_rfl
theorem Sw:joinedFacts Tryz.prog 4 Tryz.f4 Rows.boxbookParsesSpec Rows.boxbookParsesRow=true:=by
 unfold joinedFacts
 simp only [Bool.and_eq_true]
 repeat' apply And.intro
 all_goals first|with_reducible exact j1|with_reducible exact j2|with_reducible exact j3|with_reducible exact j4|with_reducible exact j5|with_reducible exact j6|with_reducible exact j7|with_reducible exact j8|with_reducible exact j9|with_reducible exact j10|kernel_rfl
theorem jName:Tryz.prog.funcNamed "scorebook/scorebooklaw21.BoxbookParses" = some 4:=by kernel_rfl
theorem Rb:Tryz.f4.isWrapper Tryz.prog Rows.boxbookParsesRow.wrapper Rows.boxbookParsesRow.mainSum:=by unfold Func.isWrapper;rw [if_neg (by decide +kernel)];exact ⟨rfl,rfl⟩
theorem nZ:Rows.BoxbookParsesSaid:=
 OpenClaim.holds_of_wide 4 Tryz.f4 rfl rfl rfl rfl rfl rfl rfl ⟨rfl,rfl,rfl,rfl,rfl⟩ rfl rfl rfl rfl rfl jName Tryz.func4 Sw
  (of_decide_eq_true (by kernel_rfl)) Rb
  (fun os started H enc _=>lF os started H enc)
theorem c1:Rows.boxbookParsesRow.wfByText (OpenSpec.ofChange Rows.boxbookParsesSpec)=true:=by kernel_rfl
theorem c2:Tryz.prog.mainIs=some (true,"0153d2e654d693be89b32985ff651f7138f7a72c3099e321b7fb61be8b664498".toList):=by kernel_rfl
theorem c3:true=Tryz.prog.looks []:=by kernel_rfl
theorem c4 :(Tryz.f4.params.toList.all fun u=>!Tryz.prog.wantsStandIn u)=true:=by kernel_rfl
theorem c5:false=Rows.boxbookParsesRow.goesBy Tryz.prog:=by kernel_rfl
theorem boxbookParses_holds:Rows.BoxbookParsesCardSaid:=
 Claim7.holds_tied_plain_at .later [] [.data,.data,.data,.data,.sentinel,.sentinel,.pinned] true (true,"0153d2e654d693be89b32985ff651f7138f7a72c3099e321b7fb61be8b664498") true
  nZ (fun _ h=>by cases h) c1 (fun _ h=>by cases h) boxbookParses_row_tie rfl ⟨rfl,rfl⟩ c2 rfl
  (fun f fn hf hfn=>by
   obtain rfl:f=4:=Option.some.inj (jName.symm.trans hf) |>.symm
   obtain rfl:fn=Tryz.f4:=(Option.some.inj (Tryz.func4.symm.trans hfn)).symm
   exact ⟨c3,fun j t ht=>by
    have hm:t∈Tryz.f4.params.toList:=Array.mem_toList_iff.2 (Array.mem_of_getElem? ht)
    exact (show Tryz.prog.wantsStandIn t=false by simpa using List.all_eq_true.1 c4 t hm)⟩)
  c5
#print axioms boxbookParses_holds
end Go.Proofs.YtffdpnmioidloaaGreatDoor
