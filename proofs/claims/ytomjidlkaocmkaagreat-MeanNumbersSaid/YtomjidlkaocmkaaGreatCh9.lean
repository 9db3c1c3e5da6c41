import Derived.Test.YtomjidlkaocmkaaGreatSe9
/-! One of the runs calls itself a thousand levels deep: it is run from its end, forty levels at a time. -/
namespace Go.Proofs.YtomjidlkaocmkaaGreat
open Go.Am
set_option maxRecDepth 100000

def xArgs : List AV := [(.ptr 0 0 0),(.ptr 1 0 0),(.agg [(iL 12),(iL 35),(sL [102]),cL,eL,eL,nL,nL,nL])]
def xHeap (b c y : Int) : Heap := [
.arr ⟨5,false,false,[(.agg [(.map 2),(iL 5000),(iL b),(iL c),(iL y)])]⟩,
.arr ⟨9,false,false,[(.agg [eL,(iL 0),(iL 0),cL,nL,nL,(.lit .nilFunc),pL,(.ptr 3 0 0)])]⟩,
.map [((.string ⟨⟨[109]⟩⟩),(.ptr 3 0 0),0)] 1,
.arr ⟨8,false,false,[(.agg [(sL [109]),nL,(.isl 1 false [(sL [102])]),nL,nL,(.isl 12 false [(.agg [(sL [102]),nL,(sL [110,117,109]),(iL 12),(iL 35),(sL [102]),cL,eL,eL,nL,nL,nL])]),(.ptr 4 0 0),(.map 5)])]⟩,
.arr ⟨3,false,false,[(.agg [(.map 6),(.map 7),(.map 8)])]⟩,
.map [] 0,
.map [((.string ⟨⟨[102]⟩⟩),(.agg [(iL 3),(sL [102]),(sL [40,41,110,117,109]),nL]),0)] 1,
.map [] 0,
.map [] 0]
def xVal : AV := (.agg [(iL 0),(iL 0),cL,nL,nL,(.lit .nilFunc)])
def xRow (b c : Int) : RowH := ⟨xArgs, xHeap b c 0, xVal, xHeap 1000 c 43⟩
noncomputable def xFn (b c : Int) : FnF := memoF [xRow b c] N28
noncomputable def xEnv (b c : Int) : SEnv := senv0.withF 28 .raw (subF (xFn b c))
def xSaid (b c : Int) : Prop := SaysCall Tryz.prog gl 28 xArgs (xHeap b c 0) xVal (xHeap 1000 c 43)
theorem xFn_ok {b c : Int} (h : xSaid b c) : FnOk Tryz.prog gl 28 (xFn b c) := memoF_ok N28_ok fun x hx => by
  rw [List.mem_singleton] at hx
  subst hx
  exact h
theorem xEnv_ok {b c : Int} (h : xSaid b c) : SEnvOk (xEnv b c) := senv0_ok.withF (subF_ok (xFn_ok h))
theorem next {b c b' c' : Int} (h : xSaid b c) (hx : isRH (withinX (xFn b c (scall (xEnv b c) 390)) xArgs (xHeap b' c' 0)) xVal (xHeap 1000 c' 43) = true) : xSaid b' c' := rowH_ok (xEnv_ok h) (xFn_ok h) hx

theorem s960 : xSaid 959 960 := rowH_ok senv0_ok N28_ok (n := 390) (by kernel_rfl)
theorem s920 : xSaid 919 920 := next s960 (by kernel_rfl)
theorem s880 : xSaid 879 880 := next s920 (by kernel_rfl)
theorem s840 : xSaid 839 840 := next s880 (by kernel_rfl)
theorem s800 : xSaid 799 800 := next s840 (by kernel_rfl)
theorem s760 : xSaid 759 760 := next s800 (by kernel_rfl)
theorem s720 : xSaid 719 720 := next s760 (by kernel_rfl)
theorem s680 : xSaid 679 680 := next s720 (by kernel_rfl)
theorem s640 : xSaid 639 640 := next s680 (by kernel_rfl)
theorem s600 : xSaid 599 600 := next s640 (by kernel_rfl)
theorem s560 : xSaid 559 560 := next s600 (by kernel_rfl)
theorem s520 : xSaid 519 520 := next s560 (by kernel_rfl)
theorem s480 : xSaid 479 480 := next s520 (by kernel_rfl)
theorem s440 : xSaid 439 440 := next s480 (by kernel_rfl)
theorem s400 : xSaid 399 400 := next s440 (by kernel_rfl)
theorem s360 : xSaid 359 360 := next s400 (by kernel_rfl)
theorem s320 : xSaid 319 320 := next s360 (by kernel_rfl)
theorem s280 : xSaid 279 280 := next s320 (by kernel_rfl)
theorem s240 : xSaid 239 240 := next s280 (by kernel_rfl)
theorem s200 : xSaid 199 200 := next s240 (by kernel_rfl)
theorem s160 : xSaid 159 160 := next s200 (by kernel_rfl)
theorem s120 : xSaid 119 120 := next s160 (by kernel_rfl)
theorem s80 : xSaid 79 80 := next s120 (by kernel_rfl)
theorem s40 : xSaid 39 40 := next s80 (by kernel_rfl)
noncomputable def senv : SEnv := xEnv 39 40
theorem senv_ok : SEnvOk senv := xEnv_ok s40
end Go.Proofs.YtomjidlkaocmkaaGreat
