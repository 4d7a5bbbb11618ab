/- BoxbookLines: for all rules and every book the law returns true: what follows from the boxes and the strips of the book cut short is as specified. The card: the tables and errors of the library that the row lists are tied to the text of the program. No condition beyond the row. -/
import Derived.Test.YtjcbhomccohklaaGreatDoorPD7
import Derived.Test.YtjcbhomccohklaaGreatDoorCards
import Derived.SizedLaws
import Derived.LaidMore
import Derived.SevenTiedAt
import Derived.OpenShut
import Derived.ProofKit
namespace Go.Proofs.YtjcbhomccohklaaGreatDoor
open Go Go.aa Go.ChangeShapes Go.WideShapes Go.ChangeAt Go.RowKit
attribute [local irreducible] Go.aa.RT.sat Go.aa.dD Go.aa.bT
theorem UL:laidOutB Tryz.prog=true:=by kernel_rfl
theorem abj {α:Type} {ds:List α} (h:ds.length=2) :∃ a b,ds=[a,b]:=by
 match ds,h with
 | [a,b],_=>exact ⟨a,b,rfl⟩
set_option maxRecDepth 100000 in
theorem pY (os:Os) (started:os.Started) (H:Type) (enc:TypeId×Value->H) :
  ReturnsInHanded {} Tryz.checked os 4 .any (fun w args=>(Rows.boxbookLinesSpec.pre enc Tryz.prog Tryz.f4 [] false w args/\laidMetH Tryz.prog nS w)/\sizedMet enc Tryz.prog Tryz.f4 (OpenSpec.ofChange Rows.boxbookLinesSpec) false w args)
   (Rows.boxbookLinesSpec.post enc Tryz.prog Tryz.f4 false true false false):=by
 refine rE (C:=Tryz.checked) (X:=fun w _=>laidMetH Tryz.prog nS w) (fun _ _ _ hh h=>h.of_heap hh) aeK started (by kernel_rfl) Tryz.func4
  (ChangeSpec.witness_shaped (enc:=enc) (C:=Tryz.checked) (os:=os) (X:=fun w _=>laidMetH Tryz.prog nS w) false (World.laidAll Tryz.prog os nS) #[.agg #[.string { data:=#[] },.int .i64 0,.int .i64 0,.int .i64 0,.int .i64 0,.int .i64 0,.int .i64 0,.int .i64 0,.bool false,.int .i64 0,.int .i64 0,.int .i64 0,.int .i64 0,.slice none 0 0],.agg #[.int .i64 0,.slice none 0 0,.slice none 0 0,.int .i64 0,.int .i64 0,.int .i64 0,.int .i64 0,.int .i64 0,.int .i64 0,.int .i64 0]] 8 (World.laidAll_os _ _ _) (World.shaped_of_ZipB (by kernel_rfl) (by kernel_rfl)) (by kernel_rfl) (by kernel_rfl) (by kernel_rfl) (Lk os _)) ?_
 intro W base args ds gs before hval hW _ hsz hX hsh _;have hW':=hW;obtain ⟨p,q,hA,hV,rfl,_,_⟩:=hW';obtain ⟨rfl,rfl⟩:=trodVars_none hV
 have hw :∀ m∈DataW.weightsEach Tryz.prog Tryz.f4.params.toList ds,m<=aW:=fun m hm=>by
  have e:DataW.weightsEach Tryz.checked.prog (Tryz.f4.params.toList++Rows.boxbookLinesSpec.plain.varTypes Tryz.checked.prog) (ds++[])=DataW.weightsEach Tryz.prog Tryz.f4.params.toList ds:=by rw [List.append_nil];kernel_rfl
  rw [e] at hsz;have h1:=List.all_eq_true.1 hsz m hm;have h2:m<=reachBytes:=by simpa using h1
  exact Nat.le_trans h2 (of_decide_eq_true (by kernel_rfl))
 have hlen:ds.length=2:=by obtain ⟨_,_,_,_,_,h⟩:=sW (ps:=(.prod (.nm .aj) (.prod (.nm .ay) .unit))) hA (by kernel_rfl) (fun j t v h1 h2=>⟨_,_,hval j t v (Array.getElem?_toList.symm.trans h1) (Array.getElem?_toList.symm.trans h2)⟩) hw;exact h
 refine (H3 It (fn:=Tryz.f4) (ps:=(.prod (.nm .aj) (.prod (.nm .ay) .unit))) (by kernel_rfl) (R8 hX hsh) (by rintro ⟨r,b,⟨⟩⟩ hw;exact ⟨[],by kernel_rfl,fun p hp=>by cases hp⟩) hA (fun j t v h1 h2=>⟨_,_,hval j t v h1 h2⟩) hw).mono fun e W' hr=>?_;obtain ⟨rfl,hk⟩:=hr;refine ⟨_,rfl,OD UL (TB:=4) (by kernel_rfl) Tryz.underlying4 ?_ rfl hW ?_ hk⟩
 ·have h :(Tryz.f4.params.toList.all fun t=>Tryz.prog.readableRec t&&decide (t<Tryz.prog.types.size))=true:=by kernel_rfl
  intro t ht
  have:=List.all_eq_true.1 h t ht
  simpa using this
 ·obtain ⟨a,b,rfl⟩:=abj hlen;exact ⟨rfl,rfl,rfl⟩
theorem j1:laidOutB Tryz.prog=true:=UL
theorem j2:mapsRowed Tryz.prog=true:=by kernel_rfl
theorem j3 :(Rows.boxbookLinesRow.inPlace==Tryz.prog.inPlace 4)=true:=by kernel_rfl
theorem j4 :(Rows.boxbookLinesRow.unfollowed==Tryz.prog.unfollowed 4)=true:=by kernel_rfl
theorem j5 :(Rows.boxbookLinesRow.recurses==Tryz.prog.recurses 4)=true:=by kernel_rfl
theorem j6 :(Rows.boxbookLinesRow.named==Tryz.prog.varsNamed 4)=true:=by kernel_rfl
theorem j7:Tryz.prog.stopsHeard=true:=by kernel_rfl
theorem j8:Tryz.prog.mayEnter=true:=by kernel_rfl
theorem j9 :(Rows.boxbookLinesRow.lifted==Tryz.prog.liftsFinal)=true:=by kernel_rfl
theorem j10 :(Tryz.prog.make==some Rows.boxbookLinesRow.make)=true:=by kernel_rfl
theorem aep:joinedFacts Tryz.prog 4 Tryz.f4 Rows.boxbookLinesSpec Rows.boxbookLinesRow=true:=by
 unfold joinedFacts;simp only [Bool.and_eq_true]
 repeat' apply And.intro
 all_goals first|with_reducible exact j1|with_reducible exact j2|with_reducible exact j3|with_reducible exact j4|with_reducible exact j5|with_reducible exact j6|with_reducible exact j7|with_reducible exact j8|with_reducible exact j9|with_reducible exact j10|kernel_rfl
theorem UH:Tryz.prog.funcNamed "scorebook/scorebooklaw21.BoxbookLines" = some 4:=by kernel_rfl
theorem abf:Tryz.f4.isWrapper Tryz.prog Rows.boxbookLinesRow.wrapper Rows.boxbookLinesRow.mainSum:=by unfold Func.isWrapper;rw [if_neg (by decide +kernel)];exact ⟨rfl,rfl⟩
theorem sZ:Rows.BoxbookLinesSaid:=
 OpenClaim.holds_of_wide 4 Tryz.f4 rfl rfl rfl rfl rfl rfl rfl ⟨rfl,rfl,rfl,rfl,rfl⟩ rfl rfl rfl rfl rfl UH Tryz.func4 aep
  (of_decide_eq_true (by kernel_rfl)) abf
  (fun os started H enc _=>pY os started H enc)
theorem c1:Rows.boxbookLinesRow.wfByText (OpenSpec.ofChange Rows.boxbookLinesSpec)=true:=by kernel_rfl
theorem c2:Tryz.prog.mainIs=some (true,"68072eab865b09d483aac2b8c8504e5f8903c7a7d1fbcb26e4d20cb9d039a293".toList):=by kernel_rfl
theorem c3:true=Tryz.prog.looks []:=by kernel_rfl
theorem c4 :(Tryz.f4.params.toList.all fun u=>!Tryz.prog.wantsStandIn u)=true:=by kernel_rfl
theorem c5:false=Rows.boxbookLinesRow.goesBy Tryz.prog:=by kernel_rfl
theorem boxbookLines_holds:Rows.BoxbookLinesCardSaid:=
 Claim7.holds_tied_plain_at .later [] [.data,.data,.data,.data,.sentinel,.sentinel,.pinned] true (true,"68072eab865b09d483aac2b8c8504e5f8903c7a7d1fbcb26e4d20cb9d039a293") true
  sZ (fun _ h=>by cases h) c1 (fun _ h=>by cases h) boxbookLines_row_tie rfl ⟨rfl,rfl⟩ c2 rfl
  (fun f fn hf hfn=>by
   obtain rfl:f=4:=Option.some.inj (UH.symm.trans hf) |>.symm;obtain rfl:fn=Tryz.f4:=(Option.some.inj (Tryz.func4.symm.trans hfn)).symm
   exact ⟨c3,fun j t ht=>by
    have hm:t∈Tryz.f4.params.toList:=Array.mem_toList_iff.2 (Array.mem_of_getElem? ht)
    exact (show Tryz.prog.wantsStandIn t=false by simpa using List.all_eq_true.1 c4 t hm)⟩)
  c5
#print axioms boxbookLines_holds
end Go.Proofs.YtjcbhomccohklaaGreatDoor
