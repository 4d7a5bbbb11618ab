/- LiveShows: whatever is lost, repeated or delivered in another order, a follower shows the state after a beginning of the log of some epoch, and if it has the newest message and lags by nothing, the state after the log of the server; the statement given for this law is proved whole, with no condition added. -/
import Derived.Test.YtkgplaoappjkcaaGreatPT7
import Derived.SizedLaws
namespace Go.Proofs.YtkgplaoappjkcaaGreat
open Go Go.Mir Go.ChangeShapes Go.WideShapes Go.ChangeAt Go.RowKit
attribute [local irreducible] Go.Mir.RT.sat Go.Mir.evFn Go.Mir.stepObl
theorem OO:ownKnob Tryz.prog.godebug=none:=by kernel_rfl
theorem Nk:laidOutB Tryz.prog=true:=by kernel_rfl
theorem Nn {α:Type} {ds:List α} (h:ds.length=2) :∃ a b,ds=[a,b]:=by
 match ds,h with
 | [a,b],_=>exact ⟨a,b,rfl⟩
set_option maxRecDepth 100000 in
theorem oE (os:Os) (started:os.Started) (H:Type) (enc:TypeId×Value→H) :
  ReturnsInHanded {} Tryz.checked os 4 .any (Rows.liveShowsSpec.pre6 enc Tryz.prog Tryz.f4 Rows.liveShowsRow.domain false) (Rows.liveShowsSpec.post enc Tryz.prog Tryz.f4 false true false false):=by
 refine returnsInHanded_of_change_sized (C:=Tryz.checked) OO started (by kernel_rfl) Tryz.func4
  (ChangeSpec.witness6 (enc:=enc) (C:=Tryz.checked) false ⟨#[],#[.agg #[.string { data:=#[] },.int .i64 0,.int .i64 0,.int .i64 0,.int .i64 0,.int .i64 0,.int .i64 0,.int .i64 0,.bool false,.int .i64 0,.int .i64 0,.int .i64 0,.int .i64 0,.slice none 0 0],.slice none 0 0],[]⟩ 8 (by kernel_rfl) (by kernel_rfl) (by kernel_rfl) (by kernel_rfl)) ?_
 intro W base args ds gs before hval hW _ hsz _
 have hW':=hW
 obtain ⟨p,q,hA,hV,rfl,_,_⟩:=hW'
 obtain ⟨rfl,rfl⟩:=trodVars_none hV
 have hw :∀ m∈DataW.weightsEach Tryz.prog Tryz.f4.params.toList ds,m≤aI:=fun m hm=>by
  have e:DataW.weightsEach Tryz.checked.prog (Tryz.f4.params.toList++Rows.liveShowsSpec.plain.varTypes Tryz.checked.prog) (ds++[])=DataW.weightsEach Tryz.prog Tryz.f4.params.toList ds:=by
   rw [List.append_nil];kernel_rfl
  rw [e] at hsz
  have h1:=List.all_eq_true.1 hsz m hm
  have h2:m≤reachBytes:=by simpa using h1
  exact Nat.le_trans h2 (of_decide_eq_true (by kernel_rfl))
 have hlen:ds.length=2:=by
  obtain ⟨_,_,_,_,_,h⟩:=og (ps:=(.prod (.nm .Rules) (.prod FN .unit))) hA (by kernel_rfl) (fun j t v h1 h2=>⟨_,_,hval j t v (Array.getElem?_toList.symm.trans h1) (Array.getElem?_toList.symm.trans h2)⟩) hw
  exact h
 refine (Bd Bw (fn:=Tryz.f4) (ps:=(.prod (.nm .Rules) (.prod FN .unit))) (by kernel_rfl) (by rintro ⟨r,steps,⟨⟩⟩ hw;exact ⟨[],by kernel_rfl,fun p hp=>by cases hp⟩) hA (fun j t v h1 h2=>⟨_,_,hval j t v h1 h2⟩) hw).mono fun e W' hr=>?_
 obtain ⟨rfl,hk⟩:=hr
 refine ⟨_,rfl,GK Nk (TB:=4) (by kernel_rfl) Tryz.underlying4 ?_ rfl hW ?_ hk⟩
 ·have h :(Tryz.f4.params.toList.all fun t=>Tryz.prog.readableRec t&&decide (t<Tryz.prog.types.size))=true:=by kernel_rfl
  intro t ht
  have:=List.all_eq_true.1 h t ht
  simpa using this
 ·obtain ⟨a,b,rfl⟩:=Nn hlen
  exact ⟨rfl,rfl,rfl⟩
theorem liveShows_holds:Rows.LiveShowsSaid:=
 OpenClaim.holds_of_wide 4 Tryz.f4 rfl rfl rfl rfl rfl rfl rfl ⟨rfl,rfl,rfl,rfl,rfl⟩ rfl rfl rfl rfl rfl (by kernel_rfl) Tryz.func4 (by kernel_rfl)
  (of_decide_eq_true (by kernel_rfl)) (by unfold Func.isWrapper;rw [if_neg (by decide +kernel)];exact ⟨rfl,rfl⟩)
  (fun os started H enc _=>oE os started H enc)
#print axioms liveShows_holds
end Go.Proofs.YtkgplaoappjkcaaGreat
