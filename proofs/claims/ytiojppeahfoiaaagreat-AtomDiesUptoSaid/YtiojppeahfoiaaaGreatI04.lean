/- AtomDies: a part of its proof; conditions: its statement's. -/
import Derived.Test.YtiojppeahfoiaaaGreatI02
import Derived.Test.YtiojppeahfoiaaaGreatI03
set_option linter.defProp false
namespace Go.Proofs.YtiojppeahfoiaaaGreat.Am
open Go Go.Maps Go.Sort Go.Shelf Go.RowKit
def iQ:=@Tryz.underlying102
def tM:=@Tryz.underlying106
def yq:=@Tryz.underlying107
def yt:=@Tryz.underlying214
def yu:=@Tryz.underlying207
def G1:=@Tryz.underlying281
def G2:=@Tryz.underlying334
abbrev af {α:Type}:Option α:=none
variable {X:aS} {c:Ctx} {Q:Ex→List (Nat×V)→H→Prop} {h:H} {E:List (Nat×V)} {S:List aS} {ks:List Int} {l b data:List Nat} {cs post:List V} {g n k s i aM a d z p6 id off q j tx pv nx j1 j2 p1 r cR:Nat} {y:Operand} {P:Program} {α:Type} {t e:TypeId} {x bv dt wh di kv:V} {w:World}
theorem Yl (m:Nat): AnyZI.SortsIn Tryz.prog Tryz.sorted106_ren Fence.wide m :=
 ⟨fun lB off cap U W hH I J=>callsIn_wide.2 (AnyM.slices_Sort_int Tryz.sort176 lB off cap U W hH I J),
  fun p cap W=>callsIn_wide.2 (AnyM.slices_Sort_int_none Tryz.sort176 p cap W)⟩
theorem D2 (eg:∀args w,(callFunc g args).run Tryz.prog w=.ok (.enter g args) w){Bm:Nat}{U:DataW Unit}(si:Maps.size U≤maxLen)(I:Maps.size U*8≤140737488355328)
 (aay:SeqGives Fence.wide 2 Tryz.prog g #[.pointer (some ⟨Bm,0,none⟩)] encZ (fun J=>J.Perm (intKeys U)) (Maps.size U) w):
  Calls Tryz.prog 106 #[.func (.func g) #[] #[.pointer (some ⟨Bm,0,none⟩)]] w fun e w'=>∃(v:Value) (J:List Int),e=.returned v∧J.Perm (intKeys U) ∧
   w'.ownsRow w.heap.size 3 1 v J.length ((J.mergeSort (fun x y=>decide (x≤y))).map encZ)∧(v=.slice none 0 0↔J=[])∧Below w.heap.size w w' :=
 (callsIn_wide (n:=5)).1 (AnyZI.sorted_in Tryz.sorted106 Fence.wide 5 aa aa aa aa rfl (by omega) (Yl _) (enters_of Tryz.func176 (by rfl) rfl) g _ aa eg _ _ si I _ aay)
def Aj : List Nat:=[177,187,218]
theorem NI : EH Tryz.prog 106 3 Aj:=by
 intro g hg Bm b nn D0 w hB hm J U I
 simp only[Aj,mT,nM,sW] at hg
 rcases hg with rfl|rfl|rfl
 ·exact D2 (enters_of Tryz.func177 (by rfl) rfl) U I (AnyZI.keys_gives (ρ:=Tryz.keys107_ren) { Tryz.keys107 with } Fence.wide _ aa rfl (by omega) Bm b nn D0 w hB hm J)
 ·exact D2 (enters_of Tryz.func187 (by rfl) rfl) U I (AnyZI.keys_gives (ρ:=Tryz.keys115_ren) { Tryz.keys115 with } Fence.wide _ aa rfl (by omega) Bm b nn D0 w hB hm J)
 ·exact D2 (enters_of Tryz.func218 (by rfl) rfl) U I (AnyZI.keys_gives (ρ:=Tryz.keys181_ren) { Tryz.keys181 with } Fence.wide _ aa rfl (by omega) Bm b nn D0 w hB hm J)
end Go.Proofs.YtiojppeahfoiaaaGreat.Am
namespace Go.Proofs.YtiojppeahfoiaaaGreat.Am
open Go
variable {X:aS} {c:Ctx} {Q:Ex→List (Nat×V)→H→Prop} {h:H} {E:List (Nat×V)} {S:List aS} {ks:List Int} {l b data:List Nat} {cs post:List V} {g n k s i aM a d z p6 id off q j tx pv nx j1 j2 p1 r cR:Nat} {y:Operand} {P:Program} {α:Type} {t e:TypeId} {x bv dt wh di kv:V} {w:World}
def G3 : List Nat:=[71,235,236,212,211,180,190,163]
structure Std (told:dI): Prop where
 free:∀f,inL G3 f=true→told f=none
 more:told 217=some toldMore
theorem wrap_u64 (h:n<18446744073709551616): IntKind.wrap .u64 (n:Int)=(n:Int):=by
 grind[IntKind.wrap,IntKind.bits,IntKind.signed]
theorem wrap_u8 (n:Nat): IntKind.wrap .u8 (n:Int)=((n%256:Nat):Int):=by
 rfl
def digits : Nat→Nat→List Nat
 |0,n=>[n%128]
 |k+1,n=>if n<128 then[n] else(n%128+128)::digits k (n/128)
set_option maxRecDepth 10000 in
theorem Ym (h:n<256): Nat.lor n 128=n%128+128:=by
 have:∀m:Fin 256,Nat.lor m.1 128=m.1%128+128:=by decide
 exact this ⟨n,h⟩
theorem LP (h:n<256): intV .or .u8 (n:Int) 128=some (.int .u8 ((n%128+128:Nat):Int)):=by
 have I:((n:Int)%(2^(IntKind.u8).bits:Int)).toNat=n:=by grind[IntKind.bits]
 have J:((128:Int)%(2^(IntKind.u8).bits:Int)).toNat=128:=by rfl
 grind[intV,bitsV,Ym,wrap_u8]
theorem aaz : shiftV .shr .u64 (n:Int) 7=some (.int .u64 ((n/128:Nat):Int)):=by
 grind[shiftV,IntKind.bits]
section
variable {told:dI}
noncomputable def ZA : Code:=unloop (unblk (leftC (cN ((Tryz.f235.body).getD .skip))))
theorem uT : convV Tryz.prog h 32 5 (.int .u64 (n:Int))=some (.int .u8 ((n%256:Nat):Int),h):=by
 simp[convV,wrap_u8]
theorem jv (h:n<128): digits k n=[n]:=by
 cases k<;>grind[digits]
theorem Cy (U:n<128)(I:look E 1=some (.int .u64 (n:Int)))
 (J:Q (.exit 0) ((6,.bool false)::(5,.int .u64 (n:Int))::E) h): WP ⟨Tryz.prog,told⟩ 20 (.loop ZA) E h Q:=by
 refine WP.loop (WP.seq (WP.seq (WP.region rfl ?_)))
 refine zo rfl (bj I) (zo rfl (aJ (v:=.int .u64 (n:Int)) (u:=.int .u64 128) (r:=.bool false) rfl rfl (by simp only[binV,ikBeq,ak,intV];congr 2;simp;omega)) ?_)
 exact ay.nil (WP.cond (t:=false) rfl (WP.exit J))
theorem I3 : ∀(k n:Nat) (l:List Nat) (s:V) (h:H) (E:List (Nat×V)) (Q:Ex→List (Nat×V)→H→Prop),lY h→jE h s l→n<128^(k+1)→k≤9→l.length+k+1≤140737488355328 →
  look E 0=some s→look E 1=some (.int .u64 (n:Int)) →
  (∀E' h' s' l' (m:Nat),look E' 0=some s'→look E' 1=some (.int .u64 (m:Int))→m<128→l'++[m]=l++digits k n→jE h' s' l'→eG (2*k) (rowIds s) h h'→(∀i∈rowIds s',i∈rowIds s∨h.next≤i)→Q (.exit 0) E' h') →
  WP ⟨Tryz.prog,told⟩ 20 (.loop ZA) E h Q:=by
 intro k
 induction k with
 |zero =>
  intro n l s h E Q hw hs hn _ _ h0 J hq
  have I:n<128:=by omega
  exact Cy I J (hq _ h s l n h0 J I (by rw[jv I]) hs (eG.refl hw _) (fun i hi=>.inl hi))
 |succ k ih =>
  intro n l s h E Q hw hs hn hk hl h0 J hq
  by_cases I:n<128
  ·exact Cy I J (hq _ h s l n h0 J I (by rw[jv I]) hs ((eG.refl hw _).mono (fZ _) (fun _ h=>h)) (fun i hi=>.inl hi))
  ·have hd:n/128<128^(k+1):=by
    omega
   refine WP.loop (WP.seq (WP.seq (WP.region rfl ?_)))
   refine zo rfl (bj J) (zo rfl (aJ (v:=.int .u64 (n:Int)) (u:=.int .u64 128) (r:=.bool true) rfl rfl (by simp only[binV,ikBeq,ak,intV];congr 2;simp;omega)) ?_)
   refine ay.nil (WP.cond (t:=true) rfl (WP.skip ?_))
   refine WP.block (WP.seq (WP.region rfl ?_))
   refine zo rfl (bj h0) (zo rfl (bj J) (zo rfl (cj (v:=.int .u64 (n:Int)) rfl uT) (zo rfl (aJ (v:=.int .u8 ((n%256:Nat):Int)) (u:=.int .u8 128) (r:=.int .u8 ((n%256%128+128:Nat):Int)) rfl rfl (by exact LP (by omega))) ?_)))
   refine ay.Lx (b:=n%256%128+128) rfl hw rfl rfl rfl rfl rfl rfl (by omega) (fun v h₁ b1 k1 f1 => ?_)
   have Gj:jE h₁ s l:=hs.cO hw k1 (fun i _=>nM)
   refine ay.app (s:=s) (x:=v) rfl k1.wf rfl rfl rfl rfl rfl rfl rfl Gj b1.view (by grind) (fun v2 U b2 k2 f2 => ?_)
   have EU:eG 2 (rowIds s) h U:=(k1.mono (aP _) (fun i hi=>by grind)).trans k2 (fun i hi=>.inl hi)
   refine za rfl ?_
   refine ay.nil (WP.region rfl ?_)
   refine zo rfl (bj J) (zo rfl (aJ (v:=.int .u64 (n:Int)) (u:=.int .u64 7) (r:=.int .u64 ((n/128:Nat):Int)) rfl rfl aaz) (zk 2 rfl ?_))
   refine ih (n/128) (l++[n%256%128+128]) v2 U _ Q EU.wf b2 hd (by omega) (by grind) rfl rfl (fun E' h' s' l' m q1 q2 q3 q4 q5 q6 q7 => ?_)
   refine hq E' h' s' l' m q1 q2 q3 ?_ q5 ?_ (fun i hi => ?_)
   ·grind[digits]
   ·exact(EU.trans q6 (fun i hi=>(f2 i hi).imp_right (fun h=>b_ k1.le h))).mono (by omega) (fun i hi=>hi)
   ·rcases q7 i hi with h3|h3
    ·exact(f2 i h3).imp_right (fun h=>b_ k1.le h)
    ·exact .inr (b_ EU.le h3)
theorem EV (hT:Std told){s:V}(hw:lY h)(hs:jE h s l)(hn:n<128^(k+1))(hk:k≤9)(hl:l.length+k+1≤140737488355328):
  Call ⟨Tryz.prog,told⟩ 235 [s,.int .u64 (n:Int)] h fun v h'=>jE h' v (l++digits k n)∧eG (2*k+2) (rowIds s) h h'∧∀i∈rowIds v,i∈rowIds s∨h.next≤i:=by
 refine Call.of_wp (hT.free _ rfl) Tryz.func235 rfl rfl ?_
 refine WP.seq (WP.region rfl (ay.op rfl rfl rfl (fy rfl) (ay.nil ?_)))
 refine WP.seq (WP.block ?_)
 refine I3 k n l s h _ _ hw hs hn hk hl rfl rfl (fun E' h' s' l' m q1 q2 q3 q4 q5 I q7 => ?_)
 have BS:l'.length=l.length+(digits k n).length-1:=by
  have:=kO List.length q4
  simp at this
  omega
 have J:∀(k n:Nat),(digits k n).length≤k+1:=by
  intro k
  induction k<;>grind[digits]
 have ab2:=J k n
 refine WP.seq (WP.region rfl ?_)
 refine zo rfl (bj q1) (zo rfl (bj q2) (zo rfl (cj (v:=.int .u64 (m:Int)) rfl uT) ?_))
 refine ay.Lx (b:=m%256) rfl I.wf rfl rfl rfl rfl rfl rfl (by omega) (fun v h₁ b1 k1 f1 => ?_)
 have U:jE h₁ s' l':=q5.cO I.wf k1 (fun i _=>nM)
 refine ay.app (s:=s') (x:=v) rfl k1.wf rfl rfl rfl rfl rfl rfl rfl U b1.view (by grind) (fun v2 Yn b2 k2 f2 => ?_)
 refine za rfl ?_
 refine ay.nil (WP.ret ?_)
 refine⟨aa,v2,rfl,?_,?_,fun i hi => ?_⟩
 ·grind
 ·refine((I.trans k1 (fun i hi=>by grind)).trans k2 (fun i hi => ?_)).mono (by omega) (fun i hi=>hi)<;>grind
 ·rcases f2 i hi with h3|h3
  ·grind
  ·exact .inr (by have:=I.le;have:=k1.le;omega)
theorem G4 (I:n<18446744073709551616): convV Tryz.prog h 3 32 (.int .i64 (n:Int))=some (.int .u64 (n:Int),h):=by
 simp_all[convV,wrap_u64]
theorem gS : ∀(k n:Nat),(digits k n).length≤k+1:=by
 intro k
 induction k<;>grind[digits]
theorem TS (I:Std told){s:V}{m:List Nat}(hw:lY h)(hs:jE h s l)(J:View h x m)(hd:∀i∈rowIds x,i∉rowIds s)(hn:m.length<128^(k+1))(hk:k≤9)(hl:l.length+k+1+m.length≤140737488355328):
  Call ⟨Tryz.prog,told⟩ 236 [s,x] h fun v h'=>jE h' v (l++digits k m.length++m)∧eG (2*k+3) (rowIds s) h h'∧∀i∈rowIds v,i∈rowIds s∨h.next≤i:=by
 refine Call.of_wp (I.free _ rfl) Tryz.func236 rfl rfl ?_
 refine WP.seq (WP.region rfl (ay.op rfl rfl rfl (fy rfl) (ay.nil ?_)))
 refine WP.seq (WP.region rfl ?_)
 refine zk 2 rfl (zo rfl (aY (v:=x) rfl rfl rfl J.len) (zo rfl (cj (v:=.int .i64 (m.length:Int)) rfl (G4 (by omega))) ?_))
 refine ay.call rfl rfl rfl rfl rfl rfl rfl (EV I (k:=k) hw hs hn hk (by omega)) (fun v h₁ ⟨b1,k1,f1⟩ => ?_)
 refine zm rfl ?_
 have qi:=gS k m.length
 refine ay.app (s:=v) (x:=x) rfl k1.wf rfl rfl rfl rfl rfl rfl rfl b1 (J.cO hw k1 hd) (by grind) (fun v2 U b2 k2 f2 => ?_)
 refine ay.op rfl rfl rfl (fy rfl) (ay.nil (WP.ret ?_))
 refine⟨aa,v2,rfl,b2,(k1.trans k2 f1).mono (by omega) (fun i hi=>hi),fun i hi => ?_⟩
 rcases f2 i hi with h3|h3
 ·grind
 ·exact .inr (b_ k1.le h3)
def le : Nat→Nat→List Nat
 |0,_=>[]
 |k+1,n=>(n%256)::le k (n/256)
theorem dX : ∀(k n:Nat),(le k n).length=k:=by
 intro k
 induction k<;>grind[le]
theorem LQ : ∀(k n:Nat),∀b∈le k n,b<256:=by
 intro k
 induction k with
 |zero=>intro n b I;cases I
 |succ k J =>
  intro n b I
  rcases List.mem_cons.1 I with rfl|I<;>grind
noncomputable def lyX : Code:=unloop (unblk (cN (leftC (cN ((Tryz.f71.body).getD .skip)))))
theorem aaA (hi:i≤8): shiftV .shr .u64 (n:Int) ((8*i:Nat):Int)=some (.int .u64 ((n/256^i:Nat):Int)):=by
 simp only[shiftV,IntKind.bits,eD]
 rw[show min (8*i) 64=8*i by omega,show decide (((8*i:Nat):Int)<0)=false by rfl,bf]
 rw[Int.fdiv_eq_ediv_of_nonneg _ (Int.pow_nonneg (by omega))]
 rw[show(256:Nat)^i=2^(8*i) by rw[Nat.pow_mul]]
 push_cast
 rfl
theorem Qj {size:Nat}(gW:size≤8): ∀(j i:Nat) (l:List Nat) (s:V) (h:H) (E:List (Nat×V)) (Q:Ex→List (Nat×V)→H→Prop),lY h→jE h s l→i+j=size→l.length+j≤140737488355328 →
  look E 0=some s→look E 2=some (.int .u64 (n:Int))→look E 8=some (.int .i64 (size:Int))→look E 9=some (.int .i64 (i:Int)) →
  (∀E' h' s',look E' 0=some s'→jE h' s' (l++le j (n/256^i))→eG (2*j) (rowIds s) h h'→(∀i∈rowIds s',i∈rowIds s∨h.next≤i)→Q (.exit 0) E' h') →
  WP ⟨Tryz.prog,told⟩ 22 (.loop lyX) E h Q:=by
 intro j
 induction j with
 |zero =>
  intro i l s h E Q hw hs hi _ h0 h2 h8 U hq
  refine WP.loop (WP.seq (WP.region rfl ?_))
  refine zo rfl (aJ (v:=.int .i64 (i:Int)) (u:=.int .i64 (size:Int)) (r:=.bool false) U h8 (by simp_all[binV,ikBeq,intV])) ?_
  refine ay.nil (WP.seq (WP.cond (t:=false) rfl (WP.exit ?_)))
  exact hq _ h s h0 (by simpa[le] using hs) (eG.refl hw _) (fun i hi=>.inl hi)
 |succ j ih =>
  intro i l s h E Q hw hs hi hl h0 h2 h8 U hq
  refine WP.loop (WP.seq (WP.region rfl ?_))
  refine zo rfl (aJ (v:=.int .i64 (i:Int)) (u:=.int .i64 (size:Int)) (r:=.bool true) U h8 (by simp only[binV,ikBeq,ak,intV];congr 2;simp;omega)) ?_
  refine ay.nil (WP.seq (WP.cond (t:=true) rfl (WP.skip ?_)))
  refine WP.seq (WP.block (WP.seq (WP.region rfl ?_)))
  refine zo rfl (bj U) ?_
  refine ay.op rfl rfl rfl (fy rfl) (ay.nil (WP.region rfl ?_))
  refine zo rfl (bj h0) (zo rfl (bj h2) (zm rfl ?_))
  refine ay.op rfl rfl rfl (aJ (v:=.int .i64 8) (u:=.int .i64 (i:Int)) (r:=.int .i64 ((8*i:Nat):Int)) rfl rfl (by
   simp only[binV,ikBeq,ak,intV]
   rw[show(8:Int)*(i:Int)=((8*i:Nat):Int) by rfl,wrap_i64 (by omega)])) ?_
  refine zo rfl (aJ (v:=.int .u64 (n:Int)) (u:=.int .i64 ((8*i:Nat):Int)) (r:=.int .u64 ((n/256^i:Nat):Int)) rfl rfl (by exact aaA (by omega))) ?_
  refine zo rfl (cj (v:=.int .u64 ((n/256^i:Nat):Int)) rfl uT) ?_
  refine ay.Lx (b:=n/256^i%256) rfl hw rfl rfl rfl rfl rfl rfl (by omega) (fun v h₁ b1 k1 f1 => ?_)
  have Gj:jE h₁ s l:=hs.cO hw k1 (fun i _=>nM)
  refine ay.app (s:=s) (x:=v) rfl k1.wf rfl rfl rfl rfl rfl rfl rfl Gj b1.view (by grind) (fun v2 I b2 k2 f2 => ?_)
  have J:eG 2 (rowIds s) h I:=(k1.mono (aP _) (fun i hi=>by grind)).trans k2 (fun i hi=>.inl hi)
  refine ay.op rfl rfl rfl (fy rfl) (ay.nil (WP.region rfl ?_))
  refine zo rfl (aJ (v:=.int .i64 (i:Int)) (u:=.int .i64 1) U rfl (by simp only[binV,ikBeq,ak];exact xU (by omega))) ?_
  refine ay.op rfl rfl rfl (bj rfl) (ay.nil ?_)
  refine ih (i+1) (l++[n/256^i%256]) v2 I _ Q J.wf b2 (by omega) (by grind) rfl h2 h8 rfl (fun E' h' s' q1 q2 q3 q4 => ?_)
  refine hq E' h' s' q1 ?_ ?_ (fun i hi => ?_)
  ·grind[Nat.div_div_eq_div_mul,le]
  ·exact(J.trans q3 (fun i hi=>(f2 i hi).imp_right (fun h=>b_ k1.le h))).mono (by omega) (fun i hi=>hi)
  ·rcases q4 i hi with h3|h3
   ·exact(f2 i h3).imp_right (fun h=>b_ k1.le h)
   ·exact .inr (b_ J.le h3)
theorem NJ (J:Std told){s:V}{size:Nat}(hw:lY h)(hs:jE h s l)(I:size≤8)(U:l.length+size≤140737488355328):
  Call ⟨Tryz.prog,told⟩ 71 [s,.int .i64 (size:Int),.int .u64 (n:Int)] h fun v h'=>jE h' v (l++le size n)∧eG (2*size) (rowIds s) h h'∧∀i∈rowIds v,i∈rowIds s∨h.next≤i:=by
 refine Call.of_wp (J.free _ rfl) Tryz.func71 rfl rfl ?_
 refine WP.seq (WP.region rfl (ay.op rfl rfl rfl (fy rfl) (ay.nil ?_)))
 refine WP.seq (WP.seq (WP.region rfl ?_))
 refine zm rfl ?_
 refine ay.op rfl rfl rfl (bj rfl) (ay.nil (WP.block ?_))
 refine Qj I size 0 l s h _ _ hw hs (by omega) U rfl rfl rfl rfl (fun E' h' s' q1 q2 q3 q4 => ?_)
 refine WP.seq (WP.region rfl ?_)
 refine zo rfl (bj q1) ?_
 refine ay.op rfl rfl rfl (fy rfl) (ay.nil (WP.ret ?_))
 exact⟨aa,s',rfl,by grind,q3,q4⟩
theorem LS : ∀(l:List Nat),(∀b∈l,b<256)→bytesIn (ofBytes l)=some l:=by
 intro l
 induction l<;>grind[List.mem_cons_self,bytesIn,ofBytes]
def Bc (s:Nat)(l:List Nat): Nat:=Nat.xor (crcL (Nat.xor s 4294967295) l) 4294967295
theorem D3 (hs:s<4294967296)(I:∀b∈l,b<256): Bc s l<4294967296:=oD (DP l _ (oD hs (by omega)) I) (by omega)
theorem Kj (U:Std told)(J:View h x l)(hl:l.length≤4611686018427387904)(hs:s<4294967296):
  ij ⟨Tryz.prog,told⟩ 217 [.int .u32 (s:Int),x] h (.int .u32 (Bc s l:Nat)) h:=by
 refine ij.told U.more BY rfl ?_
 have I:=J
 obtain⟨hb,I⟩:=I
 rcases I with⟨rfl|⟨ea,rfl⟩,rfl⟩|⟨id,off,cap,n,cs,st,rfl,hg,h1,h2,h3,h4⟩
 ·simp only[toldMore]
  rw[show(decide ((0:Int)≤(s:Int))&&decide ((s:Int)<4294967296))=true by grind]
  rfl
 ·simp only[toldMore]
  rw[show(decide ((0:Int)≤(s:Int))&&decide ((s:Int)<4294967296))=true by grind]
  rfl
 ·simp only[toldMore]
  rw[show(decide ((0:Int)≤(s:Int))&&decide ((s:Int)<4294967296)&&Nat.ble l.length 4611686018427387904)=true by simp[aZ];omega,ak,(View.rdN J).2]
  simp only[LS l hb]
  rfl
theorem Yo (I:Std told)(J:View h x l)(U:l.length≤4611686018427387904):
  Call ⟨Tryz.prog,told⟩ 180 [x] h fun v h'=>v=.int .u32 (Bc 0 l:Nat)∧h'=h:=by
 refine Call.of_wp (I.free _ rfl) Tryz.func180 rfl rfl ?_
 refine WP.seq (WP.region rfl (ay.op rfl rfl rfl (fy rfl) (ay.nil ?_)))
 refine WP.seq (WP.region rfl ?_)
 refine zm rfl ?_
 refine ay.call (xS:=fun v h'=>v=.int .u32 (Bc 0 l:Nat)∧h'=h) rfl rfl rfl rfl rfl rfl rfl ⟨_,_,Kj (s:=0) I J U (by omega),rfl,rfl⟩ (fun v h₁ ⟨e1,e2⟩ => ?_)
 subst e1;subst e2
 exact ay.op rfl rfl rfl (fy rfl) (ay.nil (WP.ret ⟨aa,_,rfl,rfl,rfl⟩))
def sO (aM:Nat)(l:List Nat): Nat:=Bc (Bc 0 (le 8 aM)) l
theorem G5 (I:∀b∈l,b<256): sO aM l<4294967296:=D3 (D3 (by omega) (LQ 8 aM)) I
theorem NK (J:Std told)(hw:lY h)(hx:View h x l)(hl:l.length≤4611686018427387904):
  Call ⟨Tryz.prog,told⟩ 190 [.int .u64 (aM:Int),x] h fun v h'=>v=.int .u32 (sO aM l:Nat)∧eG 16 [] h h':=by
 refine Call.of_wp (J.free _ rfl) Tryz.func190 rfl rfl ?_
 refine WP.seq (WP.region rfl (ay.op rfl rfl rfl (fy rfl) (ay.nil ?_)))
 refine WP.seq (WP.region rfl ?_)
 refine zm rfl ?_
 refine ay.call rfl rfl rfl rfl rfl rfl rfl (NJ (size:=8) (s:=.bw) (l:=[]) (n:=aM) J hw ⟨by simp,.inl ⟨rfl,rfl⟩⟩ (by omega) (by simp)) (fun v h₁ ⟨b1,k1,f1⟩ => ?_)
 rw[eE] at b1
 refine ay.call rfl rfl rfl rfl rfl rfl rfl (Yo J b1.view (by rw[dX];omega)) (fun v2 I ⟨e1,e2⟩ => ?_)
 subst e1;subst e2
 refine zm rfl ?_
 refine ay.call (xS:=fun v h'=>v=.int .u32 (sO aM l:Nat)∧h'=I) rfl rfl rfl rfl rfl rfl rfl
  ⟨_,_,Kj (s:=Bc 0 (le 8 aM)) J (hx.cO hw k1 (fun i _ hi=>by simp[rowIds] at hi)) hl (D3 (by omega) (LQ 8 aM)),rfl,rfl⟩ (fun v3 U ⟨e3,e4⟩ => ?_)
 subst e3;subst e4
 exact ay.op rfl rfl rfl (fy rfl) (ay.nil (WP.ret ⟨aa,_,rfl,rfl,k1.mono (aP _) (fun i hi=>by simp[rowIds] at hi)⟩))
end
def NL : List Nat:=[11,217,106,191,117,118]
structure W (told:dI): Prop where
 free:∀f,inL NL f=false→told f=none
 more:told 217=some toldMore
 sorted:told 106=some (toldSorted Aj)
theorem W.SE {told:dI}(I:W told): Std told:=by
 refine⟨fun f J=>I.free f ?_,I.more⟩
 have:∀f∈G3,inL NL f=false:=by decide
 grind[M3]
def k_ (v:V): Option (List Nat)→aS
 |none=>.pu (v=.bw)
 |some b=>.an (.pu (v≠.bw)) (.cm v b)
theorem aF.k_ (v:V)(o:Option (List Nat)): aF (Am.k_ v o):=by
 cases o with
 |none=>exact aF.pu _
 |some b=>exact aF.an (aF.pu _) (aF.cm _ _)
def each {α:Type}(f:V→α→aS): List V→List α→aS
 |[],[]=>.pu True
 |v::l,x::m=>.an (f v x) (each f l m)
 |_,_=>.pu False
theorem aF.each {f:V→α→aS}(I:∀v x,aF (f v x)): ∀(l:List V) (m:List α),aF (Am.each f l m):=by
 intro l
 induction l with
 |nil=>intro m;cases m<;>exact aF.pu _
 |cons v l J=>intro m;cases m with
  |nil=>exact aF.pu _
  |cons x m=>exact aF.an (I _ _) (J m)
section
variable {f:V→α→aS} {a b:PM}
theorem oR : ∀ {l:List V} {m:List α},(each f l m).p a b→l.length=m.length:=by
 intro l
 induction l with
 |nil=>intro m h;cases m with
  |nil=>rfl
  |cons x m=>exact h.elim
 |cons v l I=>intro m h;cases m with
  |nil=>exact h.elim
  |cons x m=>simp only[bI,I h.2]
theorem Bd : ∀ {l:List V} {m:List α} {i:Nat} {v:V} {x:α},(each f l m).p a b→l[i]?=some v→m[i]?=some x→(f v x).p a b:=by
 intro l
 induction l with
 |nil=>simp
 |cons u l U=>intro m i v x h I J;cases m with
  |nil=>grind
  |cons y m =>
   cases i with
   |zero=>simp at I J;subst I;subst J;exact h.1
   |succ i=>exact U h.2 I J
theorem Be : ∀ {l:List V} {m:List α} {i:Nat} {v:V} {x:α},(each f l m).p a b→(f v x).p a b→(each f (l.set i v) (m.set i x)).p a b:=by
 intro l
 induction l with
 |nil=>intro m i v x h I;cases m with
  |nil=>exact h
  |cons x m=>exact h.elim
 |cons u l J=>intro m i v x h I;cases m with
  |nil=>exact h.elim
  |cons y m =>
   cases i with
   |zero=>exact⟨I,h.2⟩
   |succ i=>exact⟨h.1,J h.2 I⟩
theorem Qk : ∀ {l:List V} {m:List α} {I:List V} {m':List α},(each f l m).p a b→(each f I m').p a b→(each f (l++I) (m++m')).p a b:=by
 intro l
 induction l with
 |nil=>intro m I m' h J;cases m with
  |nil=>exact J
  |cons x m=>exact h.elim
 |cons u l U=>intro m I m' h J;cases m with
  |nil=>exact h.elim
  |cons y m=>exact⟨h.1,U h.2 J⟩
theorem Ak {us:List V}{cs:List α}{c:α}(J:∀v x,aF (f v x))(s:Sat h (each f us cs::S))(I:cs[i]?=some c): ∃u,us[i]?=some u∧Sat h (f u c::each f us cs::S):=by
 obtain⟨a,b,q1,q2,U⟩:=s.at (k:=0) rfl
 have hl:=oR U
 have hi:=(List.getElem?_eq_some_iff.1 I).1
 have hu:us[i]?=some (us[i]'(by omega)):=bn _
 exact⟨_,hu,(s.dup (aF.each J _ _)).fR fun a b h=>Bd h hu I⟩
end
abbrev Wr := Nat×List Nat
structure Dk where
 room:Nat
 ai:List (Option (List Nat))
 waiting:List Wr
 now:List (Int×List Nat)
 log:List Nat
 aH:Nat
 mark:List Nat
 aA:Int
 dead:Bool
 cW:Option Wr
 tail:List Nat
variable {δ:Dk}
def uu (room:Nat)(pg wt nw lg:V)(I:Nat)(mk:V)(J ops:Int)(dead:Bool)(tn U:V): List V :=
 [.int .i64 (room:Int),pg,wt,nw,lg,.int .i64 (I:Int),mk,.int .i64 J,.int .i64 ops,.bool dead,tn,U]
def tN : List V→List Wr→aS
 |[],[]=>.pu True
 |p::v::l,x::m=>.an (.an (.pu (p=.int .i64 (x.1:Int)∧v≠.bw)) (.cm v x.2)) (tN l m)
 |_,_=>.pu False
theorem aF.wr : ∀(m:List Wr) (l:List V),aF (tN l m):=by
 intro m
 induction m with
 |nil=>intro l;cases l with
  |nil=>exact aF.pu _
  |cons v l=>cases l<;>exact aF.pu _
 |cons x m I=>intro l;cases l with
  |nil=>exact aF.pu _
  |cons v l=>cases l with
   |nil=>exact aF.pu _
   |cons u l=>exact aF.an (aF.an (aF.pu _) (aF.cm _ _)) (I l)
theorem TT {a b:PM}: ∀ {m:List Wr} {l:List V} {x:Wr} {v:V},(tN l m).p a b→v≠.bw→(aS.cm v x.2).p a b→(tN (l++[.int .i64 (x.1:Int),v]) (m++[x])).p a b:=by
 intro m
 induction m with
 |nil=>intro l x v h I J;cases l with
  |nil=>exact⟨⟨⟨rfl,I⟩,J⟩,aa⟩
  |cons u l=>cases l<;>exact h.elim
 |cons y m U=>intro l x v h I J;cases l with
  |nil=>exact h.elim
  |cons u l=>cases l with
   |nil=>exact h.elim
   |cons w l=>exact⟨h.1,U h.2 I J⟩
theorem Al {a b:PM}: ∀ {m:List Wr} {l:List V},(tN l m).p a b→l.length=m.length*2:=by
 intro m
 induction m with
 |nil=>intro l h;cases l with
  |nil=>rfl
  |cons u l=>cases l<;>exact h.elim
 |cons y m I=>intro l h;cases l with
  |nil=>exact h.elim
  |cons u l=>cases l with
   |nil=>exact h.elim
   |cons w l=>have:=I h.2;simp only[bI];omega
def oG (v:V)(m:List (Option (List Nat))): aS:=xs fun id:Nat=>xs fun cs:List V=>star [.pu (v=.sl id 0 m.length (.exact m.length)),pt id (.cells m.length cs false),each k_ cs m]
def An (v:V)(m:List Wr): aS:=xs fun cs:List V=>star [.arr 2 v cs,tN cs m]
def Ao (v:V): Option Wr→aS
 |none=>.pu (v=.cH)
 |some x=>xs fun id:Nat=>xs fun u:V=>star [.pu (v=.ptr id 0),pt id (.cells 2 [.int .i64 (x.1:Int),u] false),.cm u x.2]
def aD (p:Nat)(δ:Dk): aS:=xs fun pg:V=>xs fun wt:V=>xs fun nw:V=>xs fun lg:V=>xs fun mk:V=>xs fun tn:V=>xs fun I:V=>xs fun ops:Int =>
 star [pt p (.cells 12 (uu δ.room pg wt nw lg δ.aH mk δ.aA ops δ.dead tn I) false),oG pg δ.ai,An wt δ.waiting,jc (fun v b=>.cm v b) nw δ.now,bH lg δ.log,AK mk δ.mark,Ao tn δ.cW,AK I δ.tail]
section
variable {p:Nat}
theorem bp : Sat h (aD p δ::S)↔∃pg wt nw lg mk tn I ops,Sat h (pt p (.cells 12 (uu δ.room pg wt nw lg δ.aH mk δ.aA ops δ.dead tn I) false)::oG pg δ.ai::An wt δ.waiting::jc (fun v b=>.cm v b) nw δ.now::bH lg δ.log::AK mk δ.mark::Ao tn δ.cW::AK I δ.tail::S):=by
 simp[aD,fU,ej]
theorem gq {v:V}{m:List (Option (List Nat))}: Sat h (oG v m::S)↔∃id cs,v=.sl id 0 m.length (.exact m.length)∧Sat h (pt id (.cells m.length cs false)::each k_ cs m::S):=by
 simp[oG,fU,ej,eP]
theorem my {v:V}{m:List Wr}: Sat h (An v m::S)↔∃cs,Sat h (.arr 2 v cs::tN cs m::S):=by
 grind[An,fU,ej]
end
section
variable {told:dI} {v:V}
def Cz (s:Nat)(l:List Nat): Nat:=Nat.xor (crcL (Nat.xor s 4294967295) l) 4294967295
theorem Bf (hs:s<4294967296)(I:∀b∈l,b<256): Cz s l<4294967296:=oD (DP _ _ (oD hs (by omega)) I) (by omega)
theorem TU (hT:W told)(sa:Sat h S)(hk:getA S k=some X)(hX:cX X (dc v l))(hs:s<4294967296)(hl:l.length≤4611686018427387904):
  Call ⟨Tryz.prog,told⟩ 217 [.int .u32 (s:Int),v] h fun r h'=>r=.int .u32 (Cz s l:Nat)∧h'=h:=by
 have I:=sa.aL hk hX
 refine⟨_,_,ij.told hT.more BY rfl ?_,rfl,rfl⟩
 have J:vB (s:Int) l=.int .u32 (Cz s l:Nat):=by rfl
 have U:=I
 rcases U.2 with⟨rfl|⟨ea,rfl⟩,rfl⟩|⟨id,off,cap,n,cs,st,rfl,_⟩
 ·grind[toldMore]
 ·grind[toldMore]
 ·simp only[toldMore]
  rw[show(decide ((0:Int)≤(s:Int))&&decide ((s:Int)<4294967296)&&Nat.ble l.length 4611686018427387904)=true by simp;omega,ak,I.rdN.2]
  simp only
  have:∀l:List Nat,(∀b∈l,b<256)→bytesIn (ofBytes l)=some l:=by
   intro l
   induction l with
   |nil=>intro _;rfl
   |cons b l ih =>
    intro hb
    grind[ofBytes,bytesIn,List.mem_cons_self]
  rw[this l I.1]
  simp only[J]
end
section
variable {told:dI} {p:Nat}
theorem gT (J:W told)(s:Sat h (X::S))(I:cX X (dc x l))(U:l.length<1073741824):
  Call ⟨Tryz.prog,told⟩ 62 [x] h fun v h'=>Sat h' (bH v l::X::S):=by
 refine Call.of_wp (J.free _ rfl) Tryz.func62 rfl rfl (zK 7 rfl (zo rfl (aY rfl rfl rfl (bk aW (s.aL (k:=0) rfl I))) (ay.any rfl rfl rfl (OpR.vL rfl s rfl rfl rfl rfl U) ?_)))
 intro v h s
 refine zm rfl (ay.any rfl rfl rfl (OpR.oO rfl s I rfl rfl rfl rfl (by simp;omega)) ?_)
 intro v h s
 exact zk 2 rfl (WP.ret ⟨aa,_,rfl,s⟩)
theorem wH (J:W told)(s:Sat h (X::S))(I:cX X (dc x l))(U:l.length<1073741824):
  Call ⟨Tryz.prog,told⟩ 164 [x] h fun v h'=>Sat h' (bH v l::X::S):=by
 refine Call.of_wp (J.free _ rfl) Tryz.func164 rfl rfl (zK 7 rfl (zo rfl (aY rfl rfl rfl (bk aW (s.aL (k:=0) rfl I))) (ay.any rfl rfl rfl (OpR.vL rfl s rfl rfl rfl rfl U) ?_)))
 intro v h s
 refine zm rfl (ay.any rfl rfl rfl (OpR.oO rfl s I rfl rfl rfl rfl (by simp;omega)) ?_)
 intro v h s
 exact zk 2 rfl (WP.ret ⟨aa,_,rfl,s⟩)
theorem jY (J:W told)(s:Sat h (X::S))(I:cX X (dc x l))(U:l.length<1073741824):
  Call ⟨Tryz.prog,told⟩ 67 [x] h fun v h'=>Sat h' (bH v l::X::S):=by
 refine Call.of_wp (J.free _ rfl) Tryz.func67 rfl rfl (zK 7 rfl (zo rfl (aY rfl rfl rfl (bk aW (s.aL (k:=0) rfl I))) (ay.any rfl rfl rfl (OpR.vL rfl s rfl rfl rfl rfl U) ?_)))
 intro v h s
 refine zm rfl (ay.any rfl rfl rfl (OpR.oO rfl s I rfl rfl rfl rfl (by simp;omega)) ?_)
 intro v h s
 exact zk 2 rfl (WP.ret ⟨aa,_,rfl,s⟩)
theorem Bg (I:W told)(s:Sat h (aD p δ::S)): Call ⟨Tryz.prog,told⟩ 132 [.ptr p 0] h fun v h'=>v=.int .i64 (δ.ai.length:Int)∧h'=h:=by
 obtain⟨pg,wt,nw,lg,mk,tn,J,ops,s⟩:=bp.1 s
 obtain⟨id,cs,rfl,s'⟩:=gq.1 (s.ae [1])
 exact Call.of_wp (I.free _ rfl) Tryz.func132 rfl rfl (zK 8 rfl (zY s 0 mV rD rfl (zo rfl (aY rfl rfl rfl (pQ rfl tM)) (zk 2 rfl (WP.ret ⟨aa,_,rfl,rfl,rfl⟩)))))
theorem NM (U:W told){n:Int}(s:Sat h (aD p δ::S)): Call ⟨Tryz.prog,told⟩ 193 [.ptr p 0,.int .i64 n] h fun v h'=>h'=h∧((0≤n∧n<δ.ai.length∧v=.bool true)∨(¬(0≤n∧n<δ.ai.length)∧v=.bool false)):=by
 obtain⟨pg,wt,nw,lg,mk,tn,tl,ops,s⟩:=bp.1 s
 obtain⟨id,cs,rfl,s'⟩:=gq.1 (s.ae [1])
 refine Call.of_wp (U.free _ rfl) Tryz.func193 rfl rfl (zK 7 rfl ?_)
 refine zd rfl (aJ rfl rfl kK) ?_ ?_
 ·intro J
  have J:0≤n:=by simpa using J
  refine zk 4 rfl (zY s 0 mV rD rfl (zo rfl (aY rfl rfl rfl (pQ rfl tM)) ?_))
  refine zd rfl (aJ rfl rfl bq) ?_ ?_
  ·intro I
   have I:n<δ.ai.length:=by simpa using I
   exact zk 3 rfl (WP.ret ⟨aa,_,rfl,rfl,.inl ⟨J,I,rfl⟩⟩)
  ·intro I
   have I:¬ n<δ.ai.length:=by simpa using I
   exact zk 3 rfl (WP.ret ⟨aa,_,rfl,rfl,.inr ⟨fun h=>I h.2,rfl⟩⟩)
 ·intro J
  have J:¬ 0≤n:=by simpa using J
  exact zk 11 rfl (WP.ret ⟨aa,_,rfl,rfl,.inr ⟨fun h=>J h.1,rfl⟩⟩)
def Dk.wI (δ:Dk): Nat:=δ.aH
def Dk.cQ (δ:Dk): Dk:={ δ with aA:=if 0<δ.aA then δ.aA-1 else δ.aA }
def Dk.die (δ:Dk): Dk:={ δ with dead:=true }
theorem mz (hT:W told)(s:Sat h (aD p δ::S))(hf:δ.aA<4294967296):
  Call ⟨Tryz.prog,told⟩ 188 [.ptr p 0] h fun v h'=>(δ.aA=0∧v=.bool false∧Sat h' (aD p δ.die::S))∨(δ.aA≠0∧v=.bool true∧Sat h' (aD p δ.cQ::S)):=by
 obtain⟨pg,wt,nw,lg,mk,tn,U,ops,s⟩:=bp.1 s
 refine Call.of_wp (hT.free _ rfl) Tryz.func188 rfl rfl (zK 9 rfl (zY s 0 vI dy rfl ?_))
 refine zd rfl (aJ rfl rfl bZ) ?_ ?_
 ·intro J
  refine zk 6 rfl (zf rfl (ji _ _) ?_)
  refine zS rfl (by exact s.dV (k:=0) rfl xw rfl (by decide) rfl rfl) (fun h s => ?_)
  refine zk 5 rfl (WP.ret ⟨aa,_,rfl,?_⟩)
  have J:δ.aA=0:=by simpa using J
  exact .inl ⟨J,rfl,bp.2 ⟨pg,wt,nw,lg,mk,tn,U,ops,s⟩⟩
 ·intro J
  have J:δ.aA≠0:=by simpa using J
  refine zk 8 rfl (zY s 0 vI dy rfl ?_)
  refine zd rfl (aJ rfl rfl dS) ?_ ?_
  ·intro I
   have I:0<δ.aA:=by simpa using I
   refine zk 5 rfl (zY s 0 vI dy rfl (zb rfl (by exact jV (aV (by omega) (by omega))) ?_))
   refine zn rfl (zf rfl (vI _ _) ?_)
   refine zS rfl (by exact s.dV (k:=0) rfl jt rfl (by decide) rfl rfl) (fun h s => ?_)
   refine zk 5 rfl (zY s 0 Af dy rfl (zb rfl (by rfl) ?_))
   refine zn rfl (zf rfl (Af _ _) ?_)
   refine zS rfl (by exact s.dV (k:=0) rfl jt rfl (by decide) rfl rfl) (fun h s => ?_)
   exact zk 5 rfl (WP.ret ⟨aa,_,rfl,.inr ⟨J,rfl,bp.2 ⟨pg,wt,nw,lg,mk,tn,U,_,by simp only[Dk.cQ,aE I];exact s⟩⟩⟩)
  ·intro I
   have I:¬ 0<δ.aA:=by simpa using I
   refine zk 7 rfl (zY s 0 Af dy rfl (zb rfl (by rfl) ?_))
   refine zn rfl (zf rfl (Af _ _) ?_)
   refine zS rfl (by exact s.dV (k:=0) rfl jt rfl (by decide) rfl rfl) (fun h s => ?_)
   exact zk 5 rfl (WP.ret ⟨aa,_,rfl,.inr ⟨J,rfl,bp.2 ⟨pg,wt,nw,lg,mk,tn,U,_,by simp only[Dk.cQ,ah I];exact s⟩⟩⟩)
def Dk.at (δ:Dk)(n:Int): List Nat:=match lookL n δ.now with
 |some b=>b
 |none=>match δ.ai[n.toNat]? with
  |some (some b)=>b
  |_=>List.replicate 512 0
theorem LU {v:V}{m:List (Option (List Nat))}(s:Sat h (oG v m::S))(hi:i<m.length):
  ∃id u,v=.sl id 0 m.length (.exact m.length)∧(∀(P:Program) (t:TypeId),isAggT P t=some false→loadV P h t (.ptr id i)=some u)∧Sat h (k_ u m[i]::oG v m::S):=by
 obtain⟨id,cs,rfl,s1⟩:=gq.1 s
 obtain⟨a,b,q1,q2,I⟩:=s1.at (k:=1) rfl
 have hl:=oR I
 have hu:cs[i]?=some (cs[i]'(by omega)):=bn _
 have s2:Sat h (each k_ cs m::pt id (.cells m.length cs false)::S):=s1.ae [1]
 have J:=s2.dup (aF.each aF.k_ cs m)
 have U:Sat h (k_ (cs[i]'(by omega)) m[i]::each k_ cs m::pt id (.cells m.length cs false)::S):=J.fR fun a b h=>Bd h hu (bn hi)
 refine⟨id,cs[i]'(by omega),rfl,fun P t ht=>GG ht (s1.row (k:=0) rfl) (by rw[gj,hu]),?_⟩
 have s5:Sat h (pt id (.cells m.length cs false)::each k_ cs m::k_ (cs[i]'(by omega)) m[i]::S):=U.ae [2,1]
 exact(gq.2 ⟨id,cs,rfl,s5⟩:Sat h (oG _ m::k_ (cs[i]'(by omega)) m[i]::S)).ae [1]
theorem Ql (hT:W told){n:Int}(s:Sat h (aD p δ::S))(hl:(δ.at n).length=512): Call ⟨Tryz.prog,told⟩ 167 [.ptr p 0,.int .i64 n] h fun v h' =>
  (δ.dead=true∧v=.bD [.bw,.int .i64 9]∧Sat h' (aD p δ::S)) ∨
  (δ.dead=false∧¬(0≤n∧n<δ.ai.length)∧v=.bD [.bw,.int .i64 1]∧Sat h' (aD p δ::S)) ∨
  (δ.dead=false∧0≤n∧n<δ.ai.length∧∃b,v=.bD [b,.int .i64 0]∧Sat h' (bH b (δ.at n)::aD p δ::S)):=by
 have s0:=s
 obtain⟨pg,wt,nw,lg,mk,tn,tl,ops,s⟩:=bp.1 s
 refine Call.of_wp (hT.free _ rfl) Tryz.func167 rfl rfl (zK 6 rfl (WP.block (zK 4 rfl (zY s 0 ji jQ rfl (zk 2 rfl ?_)))))
 refine WP.split rfl ?_ ?_
 ·intro hd
  exact zK 5 rfl (WP.ret ⟨aa,_,rfl,.inl ⟨hd,rfl,s0⟩⟩)
 ·intro hd
  refine zK 4 rfl (zc rfl (NM hT s0) ?_)
  rintro v h' ⟨rfl,(⟨J,U,rfl⟩|⟨hn,rfl⟩)⟩
  ·skip
   refine zo rfl (dQ rfl rfl) (za rfl (zv (zj rfl (WP.skip (zg rfl (zk 2 rfl (zf rfl (Ae _ _) (zl rfl (by exact s.ld (k:=0) rfl jF rfl) ?_))))))))
   refine zm rfl ?_
   have s1:Sat h' (jc (fun v b=>.cm v b) nw δ.now::pt p (.cells 12 (uu δ.room pg wt nw lg δ.aH mk δ.aA ops δ.dead tn tl) false)::oG pg δ.ai::An wt δ.waiting::bH lg δ.log::AK mk δ.mark::Ao tn δ.cW::AK tl δ.tail::S):=s.ae [3]
   rcases mw (n:=n) (fun _ _=>aF.cm _ _) s1 kZ bK yc with⟨g1,g2,_⟩|⟨u,b,g1,g2,_,s2⟩
   ·refine ay.op rfl rfl rfl (gX rfl rfl g2) ?_
    refine zk 10 rfl (zo rfl (dQ rfl rfl) (zk 5 rfl (zY s 0 mV rD rfl (zm rfl ?_))))
    have hi:n.toNat<δ.ai.length:=by omega
    obtain⟨id,u,rfl,g3,s3⟩:=LU (s.ae [1]) hi
    refine zo rfl (dD (r:=.ptr id n.toNat) rfl rfl (by rw[Sn,show(decide (0≤n)&&decide (n<((δ.ai.length:Nat):Int)))=true by simp;omega,ak];simp)) ?_
    refine zl rfl (g3 _ _ bL) (zk 6 rfl ?_)
    have I:δ.at n=match δ.ai[n.toNat] with|some b=>b|none=>List.replicate 512 0:=by
     simp only[Dk.at,g1,bn hi]
     cases δ.ai[n.toNat]<;>rfl
    cases hp:δ.ai[n.toNat] with
    |none =>
     rw[hp] at s3 I
     have I:δ.at n=List.replicate 512 0:=I
     obtain⟨rfl,_⟩:=eP.1 s3
     refine zt rfl ((by exact aJ rfl rfl (by simp only[binV,eqV,aW];rfl))) (rfl) ?_
     refine zk 4 rfl (ay.any rfl rfl rfl (OpR.FX rfl s0 rfl rfl rfl rfl (by decide)) ?_)
     intro v h s
     exact zk 3 rfl (WP.ret ⟨aa,_,rfl,.inr (.inr ⟨hd,J,U,v,rfl,by rw[I];exact s⟩)⟩)
    |some b =>
     rw[hp] at s3 I
     have I:δ.at n=b:=I
     have s4:Sat h' (aS.an (.pu (u≠.bw)) (.cm u b)::oG _ δ.ai::_):=s3
     have hu:u≠.bw:=by
      obtain⟨a,b,q1,q2,q3⟩:=s4.at (k:=0) rfl
      exact q3.1
     have s5:Sat h' (.cm u b::aD p δ::S):=by
      have s6:=s4.fR (B:=.cm u b) fun a b h=>h.2
      exact(bp.2 ⟨_,wt,nw,lg,mk,tn,tl,ops,s6.ae [2,1,1,1,1,1,1,1]⟩:Sat h' (aD p δ::.cm u b::S)).ae [1]
     have EW:∃a b c d,u=.sl a b c d:=by
      rcases (s5.aL (k:=0) rfl (cI _ _)).2 with⟨_,e⟩|⟨a,b,c,_,_,_,e,_⟩
      ·rw[I,e] at hl;simp at hl
      ·exact⟨_,_,_,_,e⟩
     obtain⟨a,b',c,d,rfl⟩:=EW
     refine zh rfl ((by exact aJ rfl rfl (by simp only[binV,eqV,aW];rfl))) (rfl) ?_
     refine zk 6 rfl (zc rfl (gT hT s5 (cI _ _) (by rw[←I,hl];decide)) ?_)
     intro v h s
     exact zk 3 rfl (WP.ret ⟨aa,_,rfl,.inr (.inr ⟨hd,J,U,v,rfl,by rw[I];exact s.del 1⟩)⟩)
   ·skip
    refine zo rfl (gX rfl rfl g2) (zk 10 rfl (zo rfl (dQ rfl rfl) (zk 7 rfl ?_)))
    have I:δ.at n=b:=by simp only[Dk.at,g1]
    have EW:∃a b c d,u=.sl a b c d:=by
     rcases (s2.aL (k:=0) rfl (cI _ _)).2 with⟨_,e⟩|⟨a,b,c,_,_,_,e,_⟩
     ·rw[I,e] at hl;simp at hl
     ·exact⟨_,_,_,_,e⟩
    obtain⟨a,b',c,d,rfl⟩:=EW
    refine zh rfl ((by exact aJ rfl rfl (by simp only[binV,eqV,aW];rfl))) (rfl) ?_
    refine zk 6 rfl (zc rfl (gT hT s2 (cI _ _) (by rw[←I,hl];decide)) ?_)
    intro v h s
    refine zk 3 rfl (WP.ret ⟨aa,_,rfl,?_⟩)
    have s:=bp.2 ⟨pg,wt,nw,lg,mk,tn,tl,ops,s.ae [3,3,3,2,2,2,2,2]⟩
    exact .inr (.inr ⟨hd,J,U,v,rfl,by rw[I];exact(s.del 2).ae [1,0]⟩)
  ·skip
   exact zo rfl (dQ rfl rfl) (zk 8 rfl (WP.ret ⟨aa,_,rfl,.inr (.inl ⟨hd,hn,rfl,s0⟩)⟩))
theorem AM (I:W told)(s:Sat h (aD p δ::S)): Call ⟨Tryz.prog,told⟩ 127 [.ptr p 0] h fun v h'=>v=.int .i64 (δ.wI:Int)∧h'=h:=by
 obtain⟨pg,wt,nw,lg,mk,tn,J,ops,s⟩:=bp.1 s
 exact Call.of_wp (I.free _ rfl) Tryz.func127 rfl rfl (zK 8 rfl (zY s 0 nU dy rfl (zk 2 rfl (WP.ret ⟨aa,_,rfl,rfl,rfl⟩))))
theorem tO (I:W told)(s:Sat h (aD p δ::S)): Call ⟨Tryz.prog,told⟩ 17 [.ptr p 0] h fun v h'=>v=.bool δ.dead∧h'=h:=by
 obtain⟨pg,wt,nw,lg,mk,tn,J,ops,s⟩:=bp.1 s
 exact Call.of_wp (I.free _ rfl) Tryz.func17 rfl rfl (zK 8 rfl (zY s 0 ji jQ rfl (zk 2 rfl (WP.ret ⟨aa,_,rfl,rfl,rfl⟩))))
def Dk.m9 (δ:Dk)(n:Int): Dk:={ δ with aA:=max (-1) n }
theorem Bh (I:W told){n:Int}(s:Sat h (aD p δ::S)): Call ⟨Tryz.prog,told⟩ 13 [.ptr p 0,.int .i64 n] h fun v h'=>v=.bD []∧Sat h' (aD p (δ.m9 n)::S):=by
 obtain⟨pg,wt,nw,lg,mk,tn,J,ops,s⟩:=bp.1 s
 refine Call.of_wp (I.free _ rfl) Tryz.func13 rfl rfl (zK 3 rfl (zo rfl (LN rfl rfl aaw) (zn rfl (zf rfl (vI _ _) ?_))))
 refine zS rfl (by exact s.dV (k:=0) rfl jt rfl (by decide) rfl rfl) (fun h s => ?_)
 exact zv (⟨aa,_,rfl,rfl,bp.2 ⟨pg,wt,nw,lg,mk,tn,J,ops,s⟩⟩)
theorem EX (U:W told)(s:Sat h (aD p δ::S))(hf:δ.aA<4294967296): Call ⟨Tryz.prog,told⟩ 128 [.ptr p 0] h fun v h' =>
  (δ.dead=true∧v=.int .i64 9∧Sat h' (aD p δ::S))∨(δ.dead=false∧δ.aA=0∧v=.int .i64 9∧Sat h' (aD p δ.die::S)) ∨
  (δ.dead=false∧δ.aA≠0∧v=.int .i64 0∧Sat h' (aD p { δ.cQ with aH:=δ.log.length }::S)):=by
 have s0:=s
 obtain⟨pg,wt,nw,lg,mk,tn,tl,ops,s⟩:=bp.1 s
 refine Call.of_wp (U.free _ rfl) Tryz.func128 rfl rfl (zK 9 rfl (zf rfl (ji _ _) ?_))
 refine zd rfl (aT rfl (s.ld (k:=0) rfl jQ rfl)) ?_ ?_
 ·intro I
  exact zk 11 rfl (WP.ret ⟨aa,_,rfl,.inl ⟨I,rfl,s0⟩⟩)
 ·intro I
  refine zk 2 rfl (zc rfl (mz U s0 hf) ?_)
  rintro v h (⟨J,rfl,s⟩|⟨J,rfl,s⟩)
  ·skip
   exact zo rfl (dQ rfl rfl) (zk 7 rfl (WP.ret ⟨aa,_,rfl,.inr (.inl ⟨I,J,rfl,s⟩)⟩))
  ·skip
   obtain⟨pg,wt,nw,lg,mk,tn,tl,ops,s⟩:=bp.1 s
   dsimp only[Dk.cQ] at s
   refine zo rfl (dQ rfl rfl) (zk 9 rfl (zY s 0 jh bL rfl (zo rfl (aY rfl rfl rfl (bk aW (s.aL (k:=4) rfl (bJ _ _)))) (zn rfl (zf rfl (nU _ _) ?_)))))
   refine zS rfl (by exact s.dV (k:=0) rfl jt rfl (by decide) rfl rfl) (fun h s => ?_)
   exact zk 5 rfl (WP.ret ⟨aa,_,rfl,.inr (.inr ⟨I,J,rfl,bp.2 ⟨pg,wt,nw,lg,mk,tn,tl,ops,s⟩⟩)⟩)
theorem LV (hT:W told)(s:Sat h (aD p δ::X::S))(hX:cX X (dc x b))(hb:b.length<1073741824)(hf:δ.aA<4294967296)(hl:δ.log.length≤4294967296)(hr:δ.room≤4294967296):
  Call ⟨Tryz.prog,told⟩ 174 [.ptr p 0,x] h fun v h' =>
  (δ.dead=true∧v=.int .i64 9∧Sat h' (aD p δ::X::S))∨(δ.dead=false∧δ.room<δ.log.length+b.length∧v=.int .i64 7∧Sat h' (aD p δ::X::S)) ∨
  (δ.dead=false∧δ.log.length+b.length≤δ.room∧δ.aA=0∧v=.int .i64 9∧Sat h' (aD p { δ.die with tail:=b }::X::S)) ∨
  (δ.dead=false∧δ.log.length+b.length≤δ.room∧δ.aA≠0∧v=.int .i64 0∧Sat h' (aD p { δ.cQ with log:=δ.log++b }::X::S)):=by
 have s0:=s
 obtain⟨pg,wt,nw,lg,mk,tn,tl,ops,s⟩:=bp.1 s
 refine Call.of_wp (hT.free _ rfl) Tryz.func174 rfl rfl (zK 5 rfl (WP.block (zK 4 rfl (zf rfl (ji _ _) ?_))))
 refine zd rfl (aT rfl (s.ld (k:=0) rfl jQ rfl)) ?_ ?_
 ·intro J
  exact zk 7 rfl (WP.ret ⟨aa,_,rfl,.inl ⟨J,rfl,s0⟩⟩)
 ·intro J
  refine zk 4 rfl (WP.drawn [af,af,af,af,af,af,af,af,af,af,af,af,af,af] rfl (by kernel_rfl) (by kernel_rfl) ?_)
  refine zM rfl (zO rfl (aY rfl rfl rfl (bk aW (s.aL (k:=8) rfl hX))) (zM rfl (zN rfl (zF rfl (Kc _ _) (zL rfl (s.ld (k:=0) rfl dy rfl) (zM rfl (zN rfl (zF rfl (jh _ _) (zL rfl (s.ld (k:=0) rfl bL rfl) (zO rfl (aY rfl rfl rfl (bk aW (s.aL (k:=4) rfl (bJ _ _)))) (zO rfl (aJ rfl rfl (by exact jV (aV (by omega) (by omega)))) ?_)))))))))))
  refine au.V4 rfl rfl rfl rfl (aJ rfl rfl dS) ?_ ?_
  ·intro I
   have I:δ.room<δ.log.length+b.length:=by simp at I;omega
   refine zA rfl ?_
   refine au.nil ⟨⟨aa,aa,aa,aa,aa,aa,aa,aa,aa,aa,aa,aa,aa,aa,aa⟩,?_⟩
   exact zK 5 rfl (WP.ret ⟨aa,_,rfl,.inr (.inl ⟨J,I,rfl,s0⟩)⟩)
  ·intro I
   have I:δ.log.length+b.length≤δ.room:=by simp at I;omega
   refine zA rfl ?_
   refine au.nil ⟨⟨aa,aa,aa,aa,aa,aa,aa,aa,aa,aa,aa,aa,aa,aa,aa⟩,?_⟩
   refine zK 4 rfl (zc rfl (mz hT s0 hf) ?_)
   rintro v h (⟨h0,rfl,s⟩|⟨h0,rfl,s⟩)
   ·skip
    refine zo rfl (dQ rfl rfl) (zk 7 rfl (zc rfl (gT hT (s.ae [1]) hX hb) ?_))
    intro v h s
    have s:=(s.fO).ae [2,0,0]
    obtain⟨pg,wt,nw,lg,mk,tn,tl,ops,s⟩:=bp.1 s
    have U:=(s.aL (k:=8) rfl (cI _ _)).cells
    refine zn rfl (zf rfl (Ba _ _) (zS rfl (s.dV (k:=0) rfl ju rfl (by decide) U.1 U.2) ?_))
    intro h s
    exact zk 5 rfl (WP.ret ⟨aa,_,rfl,.inr (.inr (.inl ⟨J,I,h0,rfl,bp.2 ⟨pg,wt,nw,lg,mk,tn,v,ops,s.del 7⟩⟩))⟩)
   ·skip
    obtain⟨pg,wt,nw,lg,mk,tn,tl,ops,s⟩:=bp.1 s
    dsimp only[Dk.cQ] at s
    refine zo rfl (dQ rfl rfl) (za rfl (zv (zj rfl (WP.skip (zg rfl (zk 3 rfl (zf rfl (jh _ _) (zl rfl (by exact s.ld (k:=0) rfl bL rfl) ?_))))))))
    refine zm rfl (ay.any rfl rfl rfl (OpR.oO rfl (s.ae [4,7]) hX rfl rfl rfl rfl (by show δ.log.length+_≤_;omega)) ?_)
    intro v h s
    have U:=(s.buf (k:=0) rfl).view.cells
    refine zn rfl (zf rfl (jh _ _) (zS rfl (s.dV (k:=2) rfl ju rfl (by decide) U.1 U.2) ?_))
    intro h s
    exact zk 5 rfl (WP.ret ⟨aa,_,rfl,.inr (.inr (.inr ⟨J,I,h0,rfl,bp.2 ⟨pg,wt,nw,v,mk,tn,tl,ops,s.ae [2,2,2,2,0,1,1,1]⟩⟩))⟩)
end
section
variable {told:dI} {p:Nat}
def Dk.wr (δ:Dk)(n:Int)(b:List Nat): Dk:={ δ.cQ with waiting:=δ.waiting++[(n.toNat,b)],now:=cY n b δ.now }
theorem TV : ∃i,Tryz.prog.info? 128=some i∧i.size=2∧i.bytes=32 :=
 ⟨_,(show Tryz.prog.info? 128=some ((Tryz.prog.info? 128).getD default) by kernel_rfl),by kernel_rfl,by kernel_rfl⟩
theorem Sat.We {m:List Wr}{u:V}{x:Wr}(s:Sat h (.cm u x.2::tN cs m::S))(hu:u≠.bw): Sat h (tN (cs++[.int .i64 (x.1:Int),u]) (m++[x])::S) :=
 s.two (aF.cm _ _) (aF.wr _ _) fun _ _ I J=>TT J hu I
theorem NN (hT:W told){n:Int}(s:Sat h (aD p δ::X::S))(hX:cX X (dc x b))(hb:b.length<1073741824)(hf:δ.aA<4294967296)(hw:δ.waiting.length≤268435456):
  Call ⟨Tryz.prog,told⟩ 133 [.ptr p 0,.int .i64 n,x] h fun v h' =>
  (δ.dead=true∧v=.int .i64 9∧Sat h' (aD p δ::X::S)) ∨
  (δ.dead=false∧¬(0≤n∧n<δ.ai.length∧b.length=512)∧v=.int .i64 1∧Sat h' (aD p δ::X::S)) ∨
  (δ.dead=false∧0≤n∧n<δ.ai.length∧b.length=512∧δ.aA=0∧v=.int .i64 9∧Sat h' (aD p { δ.die with cW:=some (n.toNat,b) }::X::S)) ∨
  (δ.dead=false∧0≤n∧n<δ.ai.length∧b.length=512∧δ.aA≠0∧v=.int .i64 0∧Sat h' (aD p (δ.wr n b)::X::S)):=by
 have J:=s
 obtain⟨pg,wt,nw,lg,mk,tn,tl,ops,s⟩:=bp.1 s
 refine Call.of_wp (hT.free _ rfl) Tryz.func133 rfl rfl (zK 5 rfl (WP.block (zK 4 rfl (zf rfl (ji _ _) ?_))))
 refine zd rfl (aT rfl (s.ld (k:=0) rfl jQ rfl)) ?_ ?_
 ·intro U
  exact zk 7 rfl (WP.ret ⟨aa,_,rfl,.inl ⟨U,rfl,J⟩⟩)
 ·intro U
  refine zk 7 rfl (zc rfl (NM hT J) ?_)
  rintro v h' ⟨rfl,(⟨CA,ZB,rfl⟩|⟨hn,rfl⟩)⟩
  ·skip
   refine zo rfl (dQ rfl rfl) (zk 2 rfl (zo rfl (aY rfl rfl rfl (bk aW (s.aL (k:=8) rfl hX))) ?_))
   refine zd rfl (aJ rfl rfl aX) ?_ ?_
   ·intro I
    have I:b.length≠512:=by simp at I;omega
    exact zk 8 rfl (WP.ret ⟨aa,_,rfl,.inr (.inl ⟨U,fun q=>I q.2.2,rfl,J⟩)⟩)
   ·intro I
    have I:b.length=512:=by simp at I;omega
    refine zk 2 rfl (zv (zj rfl (WP.skip (zg rfl (zk 2 rfl (zc rfl (gT hT (J.ae [1]) hX hb) ?_))))))
    intro u h s
    obtain⟨xy,_,cap,_,rfl,_⟩:=s.kq (by omega)
    have s:=s.fO
    have ZC:((n.toNat:Nat):Int)=n:=by omega
    refine zo rfl (dn rfl (by rw[X3];rfl)) ?_
    refine ay.cV s rfl rfl rfl (cK FR) (fun p7 h s => ?_)
    refine zS rfl (s.iq (j:=0) rfl Cl rfl rfl) (fun h s => ?_)
    refine zk 5 rfl (zc rfl (mz hT (s.ae [3]) hf) ?_)
    rintro v h (⟨h0,rfl,s⟩|⟨h0,rfl,s⟩)
    ·skip
     obtain⟨pg,wt,nw,lg,mk,tn,tl,ops,s⟩:=bp.1 s
     refine zo rfl (dQ rfl rfl) (zk 6 rfl (zf rfl (tJ _ _) ?_))
     refine zS rfl (by exact s.dV (k:=0) rfl XZ rfl (by decide) rfl rfl) (fun h s => ?_)
     dsimp only[uu,V.cells,List.length_cons,List.length_nil,Nat.reduceAdd,aQ,bringA,List.take,List.drop,List.cons_append,List.nil_append,setA,List.set] at s
     refine zk 5 rfl (WP.ret ⟨aa,_,rfl,?_⟩)
     have s1:=s.ae [8,8,8]
     have s2:Sat h (Ao _ (some (n.toNat,b))::_):=fU.2 ⟨_,fU.2 ⟨_,ej.2 (eP.2 ⟨rfl,by rw[ZC];exact s1⟩)⟩⟩
     have s3:=(s2.del 8).ae [2,2,2,2,2,2,0,1,0]
     exact .inr (.inr (.inl ⟨U,CA,ZB,I,h0,rfl,bp.2 ⟨_,_,_,_,_,_,_,_,s3⟩⟩))
    ·skip
     obtain⟨pg,wt,nw,lg,mk,tn,tl,ops,s⟩:=bp.1 s
     dsimp only[Dk.cQ] at s
     obtain⟨cs,sw⟩:=my.1 (s.ae [2])
     have s:=sw.ae [2,8,0,0]
     dsimp only[uu,V.cells,List.length_cons,List.length_nil,Nat.reduceAdd,aQ,bringA,List.take,List.drop,List.cons_append,List.nil_append,setA,getA] at s
     have J:=s
     have ZD:=(s.jW (j:=2) rfl).2.2
     refine zo rfl (dQ rfl rfl) (zk 4 rfl (WP.drawn [some (0,3),some (0,2),some (0,2),some (0,2),some (0,2),af,af,af,af,af,af] rfl (by kernel_rfl) (by kernel_rfl) ?_))
     refine zM rfl (zM rfl (zN rfl (zF rfl (tg _ _) (zL rfl (s.ld (k:=0) rfl Ck rfl) (zL rfl (s.fN (k:=1) rfl Sv Cl) ?_)))))
     obtain⟨i1,kI,jd,qj⟩:=TV
     obtain⟨sv,h1,e1,s1⟩:=kr (P:=Tryz.prog) (x:=.agg [.int .i64 n,.sl xy 0 b.length cap]) s yq FR Cl rfl (by decide) (by decide) rfl rfl
     dsimp only[V.cells] at s1
     refine au.any rfl rfl rfl rfl (OpR.of (R:=fun v h'=>v=sv∧h'=h1) (mE rfl e1) ⟨rfl,rfl⟩) ?_
     rintro v h' ⟨rfl,rfl⟩
     have ob:cs.length=δ.waiting.length*2:=by
      obtain⟨a,b,q1,q2,q3⟩:=s.at (k:=3) rfl
      exact Al q3
     obtain⟨wt',h2,e2,s2⟩:=iN (s1.ae [3,0]) yq kI FR jd (by omega) rfl (by decide) (by simp only[V.cells,bI,dz];omega)
     dsimp only[aQ,bringA] at s2
     refine au.any rfl rfl rfl rfl (OpR.of (R:=fun v h'=>v=wt'∧h'=h2) (mD rfl rfl e2) ⟨rfl,rfl⟩) ?_
     rintro v h' ⟨rfl,rfl⟩
     have hv:=s2.jW (j:=0) rfl
     refine zN rfl (zF rfl (tg _ _) (au.ik rfl rfl rfl (OpR.dg rfl rfl rfl (s2.dV (k:=2) rfl Sq rfl (by decide) hv.1 hv.2.1)) ?_))
     rintro v h ⟨rfl,s⟩
     dsimp only[Nat.reduceAdd,List.set,setA] at s
     refine au.nil ⟨⟨fun _ _=>.inr ⟨rfl,⟨_,bj rfl⟩,aU _ rfl⟩,fun _ _=>.inr ⟨rfl,⟨_,bj rfl⟩,aU _ rfl⟩,fun _ _=>.inr ⟨rfl,⟨_,jU rfl⟩,aU _ rfl⟩,fun _ _=>.inr ⟨rfl,⟨_,jg rfl (tg _ _)⟩,aU _ rfl⟩,dR (.inr ⟨rfl,⟨_,aT rfl (J.ld (k:=0) rfl Ck rfl)⟩,ZD⟩) (.inr ⟨rfl,⟨_,aT rfl (s1.ld (k:=1) rfl Ck rfl)⟩,ZD⟩),aa,aa,aa,aa,aa,aa,aa⟩,?_⟩
     refine zw (WP.drawn [af,af,af,af,af,af,af,af] rfl (by kernel_rfl) (by kernel_rfl) ?_)
     refine zM rfl (zN rfl (zF rfl (Ae _ _) (zL rfl (s.ld (k:=2) rfl jF rfl) (zM rfl (zF rfl (DU _ _) (zL rfl (s.ld (k:=3) rfl bL rfl) (au.ik rfl rfl rfl (OpR.mapUpdate rfl rfl rfl rfl (oQ (f:=fun v b=>aS.cm v b) (x:=b) (fun _ _=>aF.cm _ _) (((s.ae [11]).dup (aF.cm _ _)).ae [0,7]) kZ bK)) ?_)))))))
     intro v h s
     dsimp only[aQ,bringA] at s
     refine au.nil ⟨⟨aa,aa,aa,aa,aa,aa,aa,aa,aa⟩,?_⟩
     refine zK 4 rfl (WP.ret ⟨aa,_,rfl,?_⟩)
     have s1:=(s.ae [1,5]).We (x:=(n.toNat,b)) (by simp)
     rw[ZC] at s1
     have s2:=((my.2 ⟨_,s1.ae [2,0]⟩).del 4).del 2
     exact .inr (.inr (.inr ⟨U,CA,ZB,I,h0,rfl,bp.2 ⟨_,_,_,_,_,_,_,_,s2.ae [2,2,0,0,0,0,0,0,0]⟩⟩))
  ·skip
   exact zo rfl (dQ rfl rfl) (zk 12 rfl (WP.ret ⟨aa,_,rfl,.inr (.inl ⟨U,fun q=>hn ⟨q.1,q.2.1⟩,rfl,J⟩)⟩))
theorem TW (J:W told)(s:Sat h (aD p δ::S))(U:δ.log.length<1073741824): Call ⟨Tryz.prog,told⟩ 124 [.ptr p 0] h fun v h' =>
  (δ.dead=true∧v=.bD [.bw,.int .i64 9]∧Sat h' (aD p δ::S))∨(δ.dead=false∧∃b,v=.bD [b,.int .i64 0]∧Sat h' (bH b δ.log::aD p δ::S)):=by
 have s0:=s
 obtain⟨pg,wt,nw,lg,mk,tn,tl,ops,s⟩:=bp.1 s
 refine Call.of_wp (J.free _ rfl) Tryz.func124 rfl rfl (zK 10 rfl (zf rfl (ji _ _) ?_))
 refine zd rfl (aT rfl (s.ld (k:=0) rfl jQ rfl)) ?_ ?_
 ·intro I
  exact zk 7 rfl (WP.ret ⟨aa,_,rfl,.inl ⟨I,rfl,s0⟩⟩)
 ·intro I
  refine zk 7 rfl (zY s 0 jh bL rfl (zc rfl (gT J (s.ae [4]) (bJ _ _) U) ?_))
  intro v h s
  exact zk 3 rfl (WP.ret ⟨aa,_,rfl,.inr ⟨I,v,rfl,(bp.2 ⟨pg,wt,nw,lg,mk,tn,tl,ops,s.ae [2,2,2,2,1,1,1,1,0]⟩).ae [1]⟩⟩)
theorem CC (J:W told)(s:Sat h (aD p δ::S))(hl:δ.mark.length≤64): Call ⟨Tryz.prog,told⟩ 123 [.ptr p 0] h fun v h' =>
  (δ.dead=true∧v=.bD [.bw,.int .i64 9]∧Sat h' (aD p δ::S))∨(δ.dead=false∧∃b,v=.bD [b,.int .i64 0]∧Sat h' (bH b δ.mark::aD p δ::S)):=by
 have U:=s
 obtain⟨pg,wt,nw,lg,mk,tn,tl,ops,s⟩:=bp.1 s
 refine Call.of_wp (J.free _ rfl) Tryz.func123 rfl rfl (zK 10 rfl (zf rfl (ji _ _) ?_))
 refine zd rfl (aT rfl (s.ld (k:=0) rfl jQ rfl)) ?_ ?_
 ·intro I
  exact zk 7 rfl (WP.ret ⟨aa,_,rfl,.inl ⟨I,rfl,U⟩⟩)
 ·intro I
  refine zk 7 rfl (zY s 0 vH bL rfl (zc rfl (gT J (s.ae [5]) (cI _ _) (by omega)) ?_))
  intro v h s
  exact zk 3 rfl (WP.ret ⟨aa,_,rfl,.inr ⟨I,v,rfl,(bp.2 ⟨pg,wt,nw,lg,mk,tn,tl,ops,s.ae [2,2,2,2,2,1,1,1,0]⟩).ae [1]⟩⟩)
theorem Qm (U:W told)(s:Sat h (aD p δ::X::S))(hX:cX X (dc x b))(hf:δ.aA<4294967296):
  Call ⟨Tryz.prog,told⟩ 182 [.ptr p 0,x] h fun v h' =>
  (δ.dead=true∧v=.int .i64 9∧Sat h' (aD p δ::X::S))∨(δ.dead=false∧64<b.length∧v=.int .i64 1∧Sat h' (aD p δ::X::S)) ∨
  (δ.dead=false∧b.length≤64∧δ.aA=0∧v=.int .i64 9∧Sat h' (aD p δ.die::X::S)) ∨
  (δ.dead=false∧b.length≤64∧δ.aA≠0∧v=.int .i64 0∧Sat h' (aD p { δ.cQ with mark:=b }::X::S)):=by
 have s0:=s
 obtain⟨pg,wt,nw,lg,mk,tn,tl,ops,s⟩:=bp.1 s
 refine Call.of_wp (U.free _ rfl) Tryz.func182 rfl rfl (zK 5 rfl (WP.block (zK 4 rfl (zf rfl (ji _ _) ?_))))
 refine zd rfl (aT rfl (s.ld (k:=0) rfl jQ rfl)) ?_ ?_
 ·intro J
  exact zk 7 rfl (WP.ret ⟨aa,_,rfl,.inl ⟨J,rfl,s0⟩⟩)
 ·intro J
  refine zk 6 rfl (zo rfl (aY rfl rfl rfl (bk aW (s.aL (k:=8) rfl hX))) ?_)
  refine zd rfl (aJ rfl rfl dS) ?_ ?_
  ·intro I
   have I:64<b.length:=by simp at I;omega
   exact zk 7 rfl (WP.ret ⟨aa,_,rfl,.inr (.inl ⟨J,I,rfl,s0⟩)⟩)
  ·intro I
   have I:b.length≤64:=by simp at I;omega
   refine zk 6 rfl (zc rfl (mz U s0 hf) ?_)
   rintro v h (⟨h0,rfl,s⟩|⟨h0,rfl,s⟩)
   ·skip
    exact zo rfl (dQ rfl rfl) (zk 7 rfl (WP.ret ⟨aa,_,rfl,.inr (.inr (.inl ⟨J,I,h0,rfl,s⟩))⟩))
   ·skip
    refine zo rfl (dQ rfl rfl) (za rfl (zv (zj rfl (WP.skip (zg rfl (zk 2 rfl (zc rfl (gT U (s.ae [1]) hX (by omega)) ?_)))))))
    intro v h s
    have s:=(s.fO).ae [2,0,0]
    obtain⟨pg,wt,nw,lg,mk,tn,tl,ops,s⟩:=bp.1 s
    dsimp only[Dk.cQ] at s
    have hv:=(s.aL (k:=8) rfl (cI _ _)).cells
    refine zn rfl (zf rfl (vH _ _) (zS rfl (s.dV (k:=0) rfl ju rfl (by decide) hv.1 hv.2) ?_))
    intro h s
    exact zk 5 rfl (WP.ret ⟨aa,_,rfl,.inr (.inr (.inr ⟨J,I,h0,rfl,bp.2 ⟨pg,wt,nw,lg,v,tn,tl,ops,(s.del 5).ae [0,0,0,0,0,2,0,0,0]⟩⟩))⟩)
theorem Qn (hT:W told){n:Int}(s:Sat h (aD p δ::S))(hf:δ.aA<4294967296)(hl:δ.log.length<1073741824):
  Call ⟨Tryz.prog,told⟩ 126 [.ptr p 0,.int .i64 n] h fun v h' =>
  (δ.dead=true∧v=.int .i64 9∧Sat h' (aD p δ::S))∨(δ.dead=false∧¬(0≤n∧n≤δ.log.length)∧v=.int .i64 1∧Sat h' (aD p δ::S)) ∨
  (δ.dead=false∧0≤n∧n≤δ.log.length∧δ.aA=0∧v=.int .i64 9∧Sat h' (aD p δ.die::S)) ∨
  (δ.dead=false∧0≤n∧n≤δ.log.length∧δ.aA≠0∧v=.int .i64 0∧Sat h' (aD p { δ.cQ with log:=δ.log.take n.toNat,aH:=n.toNat }::S)):=by
 have s0:=s
 obtain⟨pg,wt,nw,lg,mk,tn,tl,ops,s⟩:=bp.1 s
 refine Call.of_wp (hT.free _ rfl) Tryz.func126 rfl rfl (zK 5 rfl (WP.block (zK 4 rfl (zf rfl (ji _ _) ?_))))
 refine zd rfl (aT rfl (s.ld (k:=0) rfl jQ rfl)) ?_ ?_
 ·intro U
  exact zk 7 rfl (WP.ret ⟨aa,_,rfl,.inl ⟨U,rfl,s0⟩⟩)
 ·intro U
  refine zk 6 rfl ?_
  refine zd rfl (aJ rfl rfl bq) ?_ ?_
  ·intro J
   have J:n<0:=by simpa using J
   exact zk 16 rfl (WP.ret ⟨aa,_,rfl,.inr (.inl ⟨U,fun q=>by omega,rfl,s0⟩)⟩)
  ·intro J
   have J:0≤n:=by simpa using J
   refine zk 4 rfl (zY s 0 jh bL rfl (zo rfl (aY rfl rfl rfl (bk aW (s.aL (k:=4) rfl (bJ _ _)))) ?_))
   refine zd rfl (aJ rfl rfl dS) ?_ ?_
   ·intro I
    have I:(δ.log.length:Int)<n:=by simpa using I
    exact zk 8 rfl (WP.ret ⟨aa,_,rfl,.inr (.inl ⟨U,fun q=>by omega,rfl,s0⟩)⟩)
   ·intro I
    have I:n≤δ.log.length:=by simpa using I
    refine zk 7 rfl (zc rfl (mz hT s0 hf) ?_)
    rintro v h (⟨h0,rfl,s⟩|⟨h0,rfl,s⟩)
    ·skip
     exact zo rfl (dQ rfl rfl) (zk 7 rfl (WP.ret ⟨aa,_,rfl,.inr (.inr (.inl ⟨U,J,I,h0,rfl,s⟩))⟩))
    ·skip
     obtain⟨pg,wt,nw,lg,mk,tn,tl,ops,s⟩:=bp.1 s
     dsimp only[Dk.cQ] at s
     obtain⟨k,rfl⟩:∃k:Nat,n=k:=⟨n.toNat,by omega⟩
     refine zo rfl (dQ rfl rfl) (za rfl (zv (zj rfl (WP.skip (zg rfl (zk 3 rfl (zf rfl (jh _ _) (zl rfl (by exact s.ld (k:=0) rfl bL rfl) ?_))))))))
     refine zm rfl (zo rfl (cG (p:=none) (q:=some (.int .i64 (k:Int))) (m:=none) (p':=none) (q':=some k) (m':=none) rfl rfl rfl rfl rfl (by simp[iA,bndV]) rfl (iC (s.buf (k:=4) rfl).view (b:=k) (by omega)).1) ?_)
     refine zc rfl (gT hT (s.ae [4]) (wF (bJ _ _) (b:=k) (by omega)) (by simp;omega)) ?_
     intro v h s
     have hv:=(s.buf (k:=0) rfl).view.cells
     refine zn rfl (zf rfl (jh _ _) (zS rfl (s.dV (k:=2) rfl ju rfl (by decide) hv.1 hv.2) ?_))
     intro h s
     refine zk 6 rfl (zf rfl (nU _ _) ?_)
     refine zS rfl (by exact s.dV (k:=2) rfl jt rfl (by decide) rfl rfl) (fun h s => ?_)
     refine zk 5 rfl (WP.ret ⟨aa,_,rfl,?_⟩)
     have s:=(s.del 1).ae [1,1,1,1,0,0,0,0]
     exact .inr (.inr (.inr ⟨U,J,I,h0,rfl,bp.2 ⟨pg,wt,nw,v,mk,tn,tl,ops,s⟩⟩))
theorem TX (hT:W told){n:Int}(s:Sat h (aD p δ::X::S))(hX:cX X (dc x b))(hf:δ.aA<4294967296)(hl:δ.log.length<1073741824)(hc:δ.aH≤δ.log.length):
  Call ⟨Tryz.prog,told⟩ 185 [.ptr p 0,.int .i64 n,x] h fun v h' =>
  (δ.dead=true∧v=.int .i64 9∧Sat h' (aD p δ::X::S))∨(δ.dead=false∧¬(0≤n∧n≤δ.aH∧b.length≤64)∧v=.int .i64 1∧Sat h' (aD p δ::X::S)) ∨
  (δ.dead=false∧0≤n∧n≤δ.aH∧b.length≤64∧δ.aA=0∧v=.int .i64 9∧Sat h' (aD p δ.die::X::S)) ∨
  (δ.dead=false∧0≤n∧n≤δ.aH∧b.length≤64∧δ.aA≠0∧v=.int .i64 0∧Sat h' (aD p { δ.cQ with log:=δ.log.drop n.toNat,aH:=δ.aH-n.toNat,mark:=b }::X::S)):=by
 have s0:=s
 obtain⟨pg,wt,nw,lg,mk,tn,tl,ops,s⟩:=bp.1 s
 refine Call.of_wp (hT.free _ rfl) Tryz.func185 rfl rfl (zK 5 rfl (WP.block (zK 4 rfl (zf rfl (ji _ _) ?_))))
 refine zd rfl (aT rfl (s.ld (k:=0) rfl jQ rfl)) ?_ ?_
 ·intro U
  exact zk 7 rfl (WP.ret ⟨aa,_,rfl,.inl ⟨U,rfl,s0⟩⟩)
 ·intro U
  refine zk 6 rfl ?_
  refine zd rfl (aJ rfl rfl bq) ?_ ?_
  ·intro hq
   have hq:n<0:=by simpa using hq
   exact zk 20 rfl (WP.ret ⟨aa,_,rfl,.inr (.inl ⟨U,fun q=>by omega,rfl,s0⟩)⟩)
  ·intro hq
   have hq:0≤n:=by simpa using hq
   refine zk 4 rfl (zY s 0 nU dy rfl ?_)
   refine zd rfl (aJ rfl rfl dS) ?_ ?_
   ·intro I
    have I:(δ.aH:Int)<n:=by simpa using I
    exact zk 13 rfl (WP.ret ⟨aa,_,rfl,.inr (.inl ⟨U,fun q=>by omega,rfl,s0⟩)⟩)
   ·intro I
    have I:n≤δ.aH:=by simpa using I
    refine zk 3 rfl (zo rfl (aY rfl rfl rfl (bk aW (s.aL (k:=8) rfl hX))) ?_)
    refine zd rfl (aJ rfl rfl dS) ?_ ?_
    ·intro J
     have J:64<b.length:=by simp at J;omega
     exact zk 8 rfl (WP.ret ⟨aa,_,rfl,.inr (.inl ⟨U,fun q=>by omega,rfl,s0⟩)⟩)
    ·intro J
     have J:b.length≤64:=by simp at J;omega
     refine zk 7 rfl (zc rfl (mz hT s0 hf) ?_)
     rintro v h (⟨h0,rfl,s⟩|⟨h0,rfl,s⟩)
     ·skip
      exact zo rfl (dQ rfl rfl) (zk 7 rfl (WP.ret ⟨aa,_,rfl,.inr (.inr (.inl ⟨U,hq,I,J,h0,rfl,s⟩))⟩))
     ·skip
      obtain⟨pg,wt,nw,lg,mk,tn,tl,ops,s⟩:=bp.1 s
      dsimp only[Dk.cQ] at s
      obtain⟨k,rfl⟩:∃k:Nat,n=k:=⟨n.toNat,by omega⟩
      refine zo rfl (dQ rfl rfl) (za rfl (zv (zj rfl (WP.skip (zg rfl (zk 3 rfl (zf rfl (jh _ _) (zl rfl (by exact s.ld (k:=0) rfl bL rfl) ?_))))))))
      refine zm rfl (zo rfl (cG (p:=some (.int .i64 (k:Int))) (q:=none) (m:=none) (p':=some k) (q':=none) (m':=none) rfl rfl rfl rfl (by simp[iA,bndV]) rfl rfl (eA (s.buf (k:=4) rfl).view (a:=k) (by omega)).1) ?_)
      refine zc rfl (gT hT (s.ae [4]) (nX (bJ _ _) (a:=k) (by omega)) (by simp;omega)) ?_
      intro v h s
      have hv:=(s.buf (k:=0) rfl).view.cells
      refine zn rfl (zf rfl (jh _ _) (zS rfl (s.dV (k:=2) rfl ju rfl (by decide) hv.1 hv.2) ?_))
      intro h s
      have s:=(s.del 1).ae [1,1,1,1,0,0,0,0]
      refine zk 5 rfl (zY s 0 nU dy rfl (zm rfl (zb rfl (by exact jV (aV (by omega) (by omega))) ?_)))
      refine zn rfl (zf rfl (nU _ _) ?_)
      refine zS rfl (by exact s.dV (k:=0) rfl jt rfl (by decide) rfl rfl) (fun h s => ?_)
      refine zk 5 rfl (zc rfl (gT hT (s.ae [8]) hX (by omega)) ?_)
      intro u h s
      have s:=s.fO
      have hu:=(s.aL (k:=0) rfl (cI _ _)).cells
      refine zn rfl (zf rfl (vH _ _) (zS rfl (s.dV (k:=2) rfl ju rfl (by decide) hu.1 hu.2) ?_))
      intro h s
      refine zk 5 rfl (WP.ret ⟨aa,_,rfl,?_⟩)
      have s:=(s.del 7).ae [2,2,2,2,2,0,1,1,0]
      dsimp only[uu,aQ,bringA,Nat.reduceAdd,List.set,setA,getA] at s
      have e:(δ.aH:Int)-(k:Int)=((δ.aH-k:Nat):Int):=by omega
      rw[e] at s
      exact .inr (.inr (.inr ⟨U,hq,I,J,h0,rfl,bp.2 ⟨pg,wt,nw,v,u,tn,tl,ops,s⟩⟩))
def Dk.fresh (ai room:Nat): Dk:={ room:=room,ai:=List.replicate ai none,waiting:=[],now:=[],log:=[],aH:=0,mark:=[],aA := -1,dead:=false,cW:=none,tail:=[] }
theorem TY : ∃i,Tryz.prog.info? 23=some i∧i.size=1∧i.bytes=24 :=
 ⟨_,(show Tryz.prog.info? 23=some ((Tryz.prog.info? 23).getD default) by kernel_rfl),by kernel_rfl,by kernel_rfl⟩
theorem I4 (v:V): ∀n:Nat,repeatL [v] n=List.replicate n v:=by
 intro n
 induction n with
 |zero=>rfl
 |succ n I=>simp only[repeatL,I,y6,iU,eE]
theorem NO {a b:PM}: ∀n:Nat,(each k_ (List.replicate n .bw) (List.replicate n none)).p a b:=by
 intro n
 induction n with
 |zero=>trivial
 |succ n I=>exact⟨rfl,I⟩
theorem G6 (hT:W told){m:Nat}(s:Sat h S)(hn:n<1073741824): Call ⟨Tryz.prog,told⟩ 60 [.int .i64 (n:Int),.int .i64 (m:Int)] h fun v h'=>∃p,v=.ptr p 0∧Sat h' (aD p (Dk.fresh n m)::S):=by
 refine Call.of_wp (hT.free _ rfl) Tryz.func60 rfl rfl (zK 8 rfl ?_)
 obtain⟨i1,I,J,qj⟩:=TY
 obtain⟨id,h1,e1,s1⟩:=ym (P:=Tryz.prog) s tM I yc J (by omega) rfl (by decide) hn
 refine ay.any rfl rfl rfl (OpR.of (R:=fun v h'=>v=.sl id 0 n (.exact n)∧h'=h1) (rC rfl rfl e1) ⟨rfl,rfl⟩) ?_
 rintro v h ⟨rfl,rfl⟩
 have s:=s1
 dsimp only[V.cells] at s
 rw[e_,I4] at s
 refine ay.yb s rfl rfl rfl rfl (fun p8 h s => ?_)
 refine zo rfl (dn rfl (by rw[X0];rfl)) ?_
 refine ay.cV s rfl rfl rfl (gP rfl rfl) (fun p10 h s => ?_)
 refine zk 2 rfl (WP.ret ⟨aa,_,rfl,?_⟩)
 have s:=(tL (f:=fun v b=>aS.cm v b) (s.ae [1]))
 have s:=s.rG.rG.yl
 have s:Sat _ (An .bw []::_):=my.2 ⟨[],(s.gB (φ:=True) aa).qh⟩
 have s:Sat _ (Ao .cH none::_):=s.gB rfl
 have s:=s.ae [6,6]
 have U:Sat _ (oG (.sl id 0 n (.exact n)) (List.replicate n none)::_):=gq.2 ⟨id,List.replicate n .bw,by rw[gM],by
  rw[gM]
  exact(((s.ae [1]).gB (φ:=True) aa).fR fun a b _=>NO n).ae [1]⟩
 dsimp only[V.cells,List.take,List.length_cons,List.length_nil,Nat.reduceAdd,List.drop,List.cons_append,List.nil_append,aQ,bringA,getA] at U
 exact⟨_,rfl,bp.2 ⟨_,_,_,_,_,_,_,_,U.ae [1,0,1,4,1,1,0,0]⟩⟩
theorem TZ (hT:W told){n m:Int}(s:Sat h S): Call ⟨Tryz.prog,told⟩ 30 [.int .i64 n,.int .i64 m] h fun v h' =>
  (¬(1≤n∧n≤65536∧0≤m∧m≤16777216)∧v=.bD [.cH,.int .i64 1]∧Sat h' S) ∨
  (1≤n∧n≤65536∧0≤m∧m≤16777216∧∃p,v=.bD [.ptr p 0,.int .i64 0]∧Sat h' (aD p (Dk.fresh n.toNat m.toNat)::S)):=by
 refine Call.of_wp (hT.free _ rfl) Tryz.func30 rfl rfl (zK 9 rfl ?_)
 refine zd rfl (aJ rfl rfl bq) ?_ ?_
 ·intro hq
  have hq:n<1:=by simpa using hq
  exact zk 19 rfl (WP.ret ⟨aa,_,rfl,.inl ⟨fun q=>by omega,rfl,s⟩⟩)
 ·intro hq
  have hq:1≤n:=by simpa using hq
  refine zk 2 rfl ?_
  refine zd rfl (aJ rfl rfl dS) ?_ ?_
  ·intro I
   have I:65536<n:=by simpa using I
   exact zk 16 rfl (WP.ret ⟨aa,_,rfl,.inl ⟨fun q=>by omega,rfl,s⟩⟩)
  ·intro I
   have I:n≤65536:=by simpa using I
   refine zk 3 rfl ?_
   refine zd rfl (aJ rfl rfl bq) ?_ ?_
   ·intro J
    have J:m<0:=by simpa using J
    exact zk 12 rfl (WP.ret ⟨aa,_,rfl,.inl ⟨fun q=>by omega,rfl,s⟩⟩)
   ·intro J
    have J:0≤m:=by simpa using J
    refine zk 3 rfl ?_
    refine zd rfl (aJ rfl rfl dS) ?_ ?_
    ·intro U
     have U:16777216<m:=by simpa using U
     exact zk 8 rfl (WP.ret ⟨aa,_,rfl,.inl ⟨fun q=>by omega,rfl,s⟩⟩)
    ·intro U
     have U:m≤16777216:=by simpa using U
     refine zk 8 rfl ?_
     obtain⟨n,rfl⟩:∃k:Nat,n=k:=⟨n.toNat,by omega⟩
     obtain⟨m,rfl⟩:∃k:Nat,m=k:=⟨m.toNat,by omega⟩
     refine zc rfl (G6 hT s (by omega)) ?_
     rintro v h ⟨p,rfl,s⟩
     exact zk 3 rfl (WP.ret ⟨aa,_,rfl,.inr ⟨hq,I,J,U,p,rfl,s⟩⟩)
end
def leN : List Nat→Nat
 |[]=>0
 |b::l=>b+256*leN l
theorem Qo : ∀(l:List Nat) (b:Nat),leN (l++[b])=leN l+b*256^l.length:=by
 intro l
 induction l with
 |nil=>intro b;simp[leN]
 |cons x l I=>intro b;simp only[iU,leN,I,bI,vn,Nat.mul_add];rw[←nO,vp (256^l.length) 256,←Nat.mul_assoc b,vp b 256,Nat.mul_assoc 256 b]
theorem yw : ∀(l:List Nat),(∀b∈l,b<256)→leN l<256^l.length:=by
 intro l
 induction l with
 |nil=>intro _;simp[leN]
 |cons x l I =>
  intro h
  have U:=I (fun b J=>h b (b9 _ J))
  have h2:=h x cn
  simp only[leN,bI,vn]
  omega
theorem G7 (i:Nat): (256:Nat)^i=2^(8*i):=by rw[Nat.pow_mul]
theorem aaB {x:Operand}(U:d<256)(hi:i≤7): binV P h .shl t x y (.int .u64 (d:Int)) (.int .i64 (8*(i:Int)))=some (.int .u64 ((d*256^i:Nat):Int)):=by
 have J:(256:Nat)^i≤256^7:=oZ (by omega) hi
 have I:d*256^i<18446744073709551616:=by
  have:d*256^i≤255*256^7:=qL (by omega) J
  omega
 simp only[binV,shiftV,IntKind.bits]
 have e:(8*(i:Int)).toNat=8*i:=by omega
 rw[e,show min (8*i) 64=8*i by omega,show decide (8*(i:Int)<0)=false by simp;omega,bf]
 have:(d:Int)*2^(8*i)=((d*256^i:Nat):Int):=by rw[G7];push_cast;rfl
 simp only[this,wrap_u64 I]
theorem or8 {x:Operand}(I:a<256^i)(hd:d<256)(hi:i≤7): binV P h .or t x y (.int .u64 (a:Int)) (.int .u64 ((d*256^i:Nat):Int))=some (.int .u64 ((a+d*256^i:Nat):Int)):=by
 have J:(256:Nat)^i≤256^7:=oZ (by omega) hi
 have hm:d*256^i≤255*256^7:=qL (by omega) J
 have U:((a:Int)%(2^(IntKind.u64).bits:Int)).toNat=a:=by simp only[IntKind.bits];omega
 have h2:(((d*256^i:Nat):Int)%(2^(IntKind.u64).bits:Int)).toNat=d*256^i:=by simp only[IntKind.bits];omega
 have h3:Nat.lor a (d*256^i)=a+d*256^i:=by
  have e:d*256^i=2^(8*i)*d:=by rw[←G7,vp]
  have:=De (i:=8*i) (b:=a) (by rw[←G7];exact I) d
  rw[←e] at this
  rw[Nat.add_comm a,this]
  exact Nat.or_comm _ _
 simp only[binV,ikBeq,ak,intV,bitsV,U,h2,h3]
 rw[wrap_u64 (by omega)]
section
variable {told:dI} {v:V}
noncomputable def wdL : Code:=cC [1,1,0,1,0,0] ((Tryz.f68.body).getD .skip)
theorem NP (U:View h v l)(hl:l.length≤8): ∀(j i:Nat) (E:List (Nat×V)) (Q:Ex→List (Nat×V)→H→Prop),i+j=l.length →
  Has E [(3,.int .u64 (leN (l.take i))),(6,v),(7,.int .i64 l.length),(8,.int .i64 i)]→(∀E',look E' 3=some (.int .u64 (leN l))→Q (.exit 0) E' h)→WP ⟨Tryz.prog,told⟩ 22 (.loop wdL) E h Q:=by
 intro j
 induction j with
 |zero =>
  intro i E Q hi hE hq
  refine WP.loop (WP.has hE (zg rfl (zC rfl bq (by simp;omega) ?_)))
  refine zk 3 rfl (WP.exit (hq _ ?_))
  rw[jy (by omega)]
  rfl
 |succ j ih =>
  intro i E Q hi hE hq
  have J:l[i]?=some (l[i]'(by omega)):=bn _
  generalize Kk:(l[i]'(by omega))=b at J
  have I:b<256:=U.1 b (bu J)
  obtain⟨id,off,e1,e2⟩:=iz U J
  have ht:l.take (i+1)=l.take i++[b]:=by rw[y_,J];rfl
  have b8:leN (l.take i)<256^i:=by
   have:=yw (l.take i) (fun x hx=>U.1 x (lN hx))
   rwa [gv,zH (by omega)] at this
  refine WP.loop (WP.has hE (zg rfl (zB rfl bq (by simp;omega) ?_)))
  refine zk 5 rfl (WP.block (zK 3 rfl (zo rfl (dD (r:=.ptr id off) rfl rfl e1) (zl rfl e2 (zk 6 rfl (zo rfl (cj rfl (by exact js Tryz.underlying5 cD (fe (by omega) (by omega)))) ?_))))))
  refine zm rfl (zb rfl (by exact A9 (aV (by omega) (by omega))) ?_)
  refine zb rfl (aaB I (by omega)) ?_
  refine zb rfl (or8 b8 I (by omega)) ?_
  refine za rfl (zv (zr rfl (zb rfl (by exact bP (aV (by omega) (by omega))) ?_)))
  refine zm rfl (zv ?_)
  refine ih (i+1) _ _ (by omega) ?_ hq
  rw[ht,Qo,gv,zH (by omega)]
  exact⟨rfl,rfl,rfl,rfl,aa⟩
theorem pS (U:W told)(s:Sat h S)(hk:getA S k=some X)(hX:cX X (dc v l))(hl:l.length≤8): Call ⟨Tryz.prog,told⟩ 68 [v] h fun r h'=>r=.int .u64 (leN l)∧h'=h:=by
 have J:=s.aL hk hX
 refine Call.of_wp (U.free _ rfl) Tryz.func68 rfl rfl (zK 12 rfl (zo rfl (aY rfl rfl rfl (bk aW J)) (zk 2 rfl (WP.block ?_))))
 refine NP J hl l.length 0 _ _ (by omega) ⟨rfl,rfl,rfl,rfl,aa⟩ (fun E' I => ?_)
 exact WP.has (F:=[(3,.int .u64 (leN l))]) ⟨I,aa⟩ (zK 5 rfl (WP.ret ⟨aa,_,rfl,rfl,rfl⟩))
theorem SF (I:W told)(s:Sat h S)(J:getA S k=some X)(U:cX X (dc v l))(hl:l.length≤4611686018427387904): Call ⟨Tryz.prog,told⟩ 180 [v] h fun r h'=>r=.int .u32 (Cz 0 l:Nat)∧h'=h:=by
 refine Call.of_wp (I.free _ rfl) Tryz.func180 rfl rfl (zK 7 rfl (zc rfl (TU (s:=0) I s J U (by decide) hl) ?_))
 rintro v h' ⟨rfl,rfl⟩
 exact zk 2 rfl (WP.ret ⟨aa,_,rfl,rfl,rfl⟩)
def dU (l:List Nat)(a z:Nat): Nat:=leN ((l.take (a+z)).drop a)
theorem tP (hT:W told){a z:Int}(s:Sat h S)(J:getA S k=some X)(U:cX X (dc v l))(ha:0≤a)(hz:1≤z)(SG:z≤7)(hl:a+z≤l.length)(i_:l.length≤65536):
  Call ⟨Tryz.prog,told⟩ 179 [.agg [v],.int .i64 a,.int .i64 z] h fun r h'=>r=.int .i64 (dU l a.toNat z.toNat)∧Sat h' S:=by
 have hv:=s.aL J U
 obtain⟨pi,po,pc,rfl⟩:=ku hv (by omega)
 refine Call.of_wp (hT.free _ rfl) Tryz.func179 rfl rfl (zg rfl ?_)
 refine ay.cV s rfl rfl rfl (gP rfl rfl) (fun p3 h s => ?_)
 refine zk 4 rfl (zY s 0 pM bL rfl (zk 3 rfl (zb rfl (by exact bP (aV (by omega) (by omega))) ?_)))
 refine zk 2 rfl (zb rfl (by exact bP (aV (by omega) (by omega))) ?_)
 have lC:=I2 (s.aL (tf J) U) (a:=a.toNat) (b:=(a+z).toNat) (c:=(a+z).toNat) (by omega) (by omega) (by omega) (by omega)
 refine zo rfl (cG (p:=some (.int .i64 a)) (q:=some (.int .i64 (a+z))) (m:=some (.int .i64 (a+z))) rfl rfl rfl rfl (gG ha) (gG (by omega)) (gG (by omega)) lC) ?_
 have hlen:((l.take (a+z).toNat).drop a.toNat).length=z.toNat:=by simp;omega
 refine zc rfl (pS hT s (tf J) (ND U (a:=a.toNat) (b:=(a+z).toNat) (c:=(a+z).toNat) (by omega) (by omega) (by omega) (by omega)) (by omega)) ?_
 rintro r h' ⟨rfl,rfl⟩
 have I:=yw ((l.take (a+z).toNat).drop a.toNat) (fun x hx=>hv.1 x (lN (oY hx)))
 have hp:256^z.toNat≤256^7:=oZ (by omega) (by omega)
 rw[hlen] at I
 have e:(a+z).toNat=a.toNat+z.toNat:=by omega
 rw[e] at I ⊢
 refine zo rfl (cj rfl (by exact js cD bK (aV (by omega) (by omega)))) ?_
 exact zk 2 rfl (WP.ret ⟨aa,_,rfl,rfl,s.drop⟩)
theorem qm (I:∀b∈l,b<256): dU l a z<256^z:=by
 have:=yw ((l.take (a+z)).drop a) (fun x J=>I x (lN (oY J)))
 have U:((l.take (a+z)).drop a).length≤z:=by simp;omega
 exact g9 this (oZ (by omega) U)
def jZ (l:List Nat): Nat:=dU l 14 2
def iK (l:List Nat): Nat:=dU l 16 2
def jH (l:List Nat)(i:Nat): Nat:=dU l (26+4*i) 2
def mG (l:List Nat)(i:Nat): Nat:=dU l (26+4*i+2) 2
theorem Qp (I:W told)(s:Sat h S)(J:getA S k=some X)(U:cX X (dc v l))(hl:l.length=512):
  Call ⟨Tryz.prog,told⟩ 160 [.agg [v]] h fun r h'=>r=.int .i64 (jZ l)∧Sat h' S:=by
 have hv:=s.aL J U
 obtain⟨pi,po,pc,rfl⟩:=ku hv (by omega)
 refine Call.of_wp (I.free _ rfl) Tryz.func160 rfl rfl (zg rfl ?_)
 refine ay.cV s rfl rfl rfl (gP rfl rfl) (fun p1 h s => ?_)
 refine zk 4 rfl (zl rfl (s.fN (k:=0) rfl gR dW) (zc rfl (tP I s (tf J) U (by decide) (by decide) (by decide) (by omega) (by omega)) ?_))
 rintro r h' ⟨rfl,s⟩
 exact zk 2 rfl (WP.ret ⟨aa,_,rfl,rfl,s.drop⟩)
theorem Wf (I:W told)(s:Sat h S)(J:getA S k=some X)(U:cX X (dc v l))(hl:l.length=512):
  Call ⟨Tryz.prog,told⟩ 161 [.agg [v]] h fun r h'=>r=.int .i64 (iK l)∧Sat h' S:=by
 have hv:=s.aL J U
 obtain⟨pi,po,pc,rfl⟩:=ku hv (by omega)
 refine Call.of_wp (I.free _ rfl) Tryz.func161 rfl rfl (zg rfl ?_)
 refine ay.cV s rfl rfl rfl (gP rfl rfl) (fun p1 h s => ?_)
 refine zk 4 rfl (zl rfl (s.fN (k:=0) rfl gR dW) (zc rfl (tP I s (tf J) U (by decide) (by decide) (by decide) (by omega) (by omega)) ?_))
 rintro r h' ⟨rfl,s⟩
 exact zk 2 rfl (WP.ret ⟨aa,_,rfl,rfl,s.drop⟩)
end
def qG (t:List Bool): List V:=t.map V.bool
theorem Kl (t:List Bool)(k:Nat)(b:Bool): (qG t).set k (.bool b)=qG (t.set k b):=by simp[qG,List.map_set]
theorem Ap {t:List Bool}(I:k<t.length): nth (qG t) k=some (.bool (t.getD k false)):=by
 rw[gj];simp[qG,bn I]
theorem Qq : zeroT Tryz.prog 264=some (.agg (qG (List.replicate 512 false))):=by kernel_rfl
def markL : Nat→Nat→List Bool→Option (List Bool)
 |0,_,t=>some t
 |n+1,k,t=>if t.getD k false then none else markL n (k+1) (t.set k true)
def cellsL (l:List Nat)(low:Nat): Nat→Nat→List Bool→Bool
 |0,_,_=>true
 |n+1,i,t=>if jH l i<low∨512<jH l i+mG l i then false else match markL (mG l i) (jH l i) t with
  |none=>false
  |some t'=>cellsL l low n (i+1) t'
def bR (l:List Nat): Bool:=decide (l.length=512)&&(decide (l.getD 13 0=0)&&(decide (26+4*jZ l≤iK l∧iK l≤512)&&cellsL l (iK l) (jZ l) 0 (List.replicate 512 false)))
theorem EY : ∀(n k:Nat) (t t':List Bool),markL n k t=some t'→t'.length=t.length:=by
 intro n
 induction n with
 |zero=>intro k t t' h;simp only[markL] at h;injection h with h;subst h;rfl
 |succ n I =>
  intro k t t' h
  simp only[markL] at h
  split at h
  ·cases h
  ·have:=I _ _ _ h;simpa using this
section
variable {told:dI} {v:V}
theorem T0 (I:W told)(s:Sat h S)(J:getA S k=some X)(U:cX X (dc v l))(hl:l.length=512)(hi:30+4*i≤512):
  Call ⟨Tryz.prog,told⟩ 162 [.agg [v],.int .i64 (i:Int)] h fun r h'=>r=.bD [.int .i64 (jH l i),.int .i64 (mG l i)]∧Sat h' S:=by
 have hv:=s.aL J U
 obtain⟨pi,po,pc,rfl⟩:=ku hv (by omega)
 have e1:(26+4*(i:Int)).toNat=26+4*i:=by omega
 have e2:(26+4*(i:Int)+2).toNat=26+4*i+2:=by omega
 refine Call.of_wp (I.free _ rfl) Tryz.func162 rfl rfl (zg rfl ?_)
 refine ay.cV s rfl rfl rfl (gP rfl rfl) (fun p2 h s => ?_)
 refine zk 6 rfl (zb rfl (by exact A9 (aV (by omega) (by omega))) ?_)
 refine zb rfl (by exact bP (aV (by omega) (by omega))) ?_
 refine zk 3 rfl ?_
 have s0:=s
 refine WP.drawn [af,af,af,some (0,2),some (0,2),some (0,2),af,af,af] rfl (by kernel_rfl) (by kernel_rfl) ?_
 refine zL rfl (s.fN (k:=0) rfl gR dW) (zM rfl (au.any rfl rfl rfl rfl (OpR.call rfl rfl rfl rfl (tP I s (tf J) U (by omega) (by decide) (by decide) (by omega) (by omega))) ?_))
 rintro r h' ⟨rfl,s⟩
 rw[e1]
 have s1:=s
 refine zL rfl (s.fN (k:=0) rfl gR dW) (zM rfl (zO rfl (aJ rfl rfl (by exact bP (aV (by omega) (by omega)))) ?_))
 refine au.any rfl rfl rfl rfl (OpR.call rfl rfl rfl rfl (tP I s (tf J) U (by omega) (by decide) (by decide) (by omega) (by omega))) ?_
 rintro r h' ⟨rfl,s⟩
 rw[e2]
 refine zA rfl (zA rfl ?_)
 refine au.nil ⟨⟨aa,aa,aa,dR (.inr ⟨rfl,⟨_,aT rfl (s0.fN (k:=0) rfl gR dW)⟩,aU _ rfl⟩) (.inr ⟨rfl,⟨_,aT rfl (s1.fN (k:=0) rfl gR dW)⟩,aU _ rfl⟩),fun _ _=>.inr ⟨rfl,⟨_,bj rfl⟩,aU _ rfl⟩,fun _ _=>.inr ⟨rfl,⟨_,aJ rfl rfl (by exact bP (aV (by omega) (by omega)))⟩,aU _ rfl⟩,aa,aa,aa,aa⟩,?_⟩
 refine WP.ret ⟨aa,_,rfl,?_⟩
 exact⟨rfl,s.drop⟩
noncomputable def gdO : Code:=cC [1,1,1,1,1,1,0,1,0,0] ((Tryz.f90.body).getD .skip)
noncomputable def gdI : Code:=cC [1,1,1,1,1,1,0,1,0,0,1,1,0,0,1,1,1,1,0,0] ((Tryz.f90.body).getD .skip)
theorem LW {v3 v4 v5 v35 v36:V}(haz:a+z≤512): ∀(m q:Nat) (t:List Bool) (h:H) (E:List (Nat×V)) (Q:Ex→List (Nat×V)→H→Prop),q+m=a+z→t.length=512 →
  Sat h (pt p6 (.cells 512 (qG t) false)::S)→Has E [(3,v3),(4,v4),(5,v5),(6,.ptr p6 0),(8,.int .i64 (a:Int)),(9,.int .i64 (z:Int)),(10,.int .i64 (q:Int)),(35,v35),(36,v36)] →
  (markL m q t=none→∀E' h',look E' 2=some (.bool false)→Sat h' S→Q .ret E' h') →
  (∀t' E' h',markL m q t=some t'→Has E' [(3,v3),(4,v4),(5,v5),(6,.ptr p6 0),(35,v35),(36,v36)]→Sat h' (pt p6 (.cells 512 (qG t') false)::S)→Q (.exit 2) E' h') →
  WP ⟨Tryz.prog,told⟩ 68 (.loop gdI) E h Q:=by
 intro m
 induction m with
 |zero =>
  intro q t h E Q hq ht s hE J U
  refine WP.loop (WP.has hE (zK 6 rfl (zb rfl (by exact bP (aV (by omega) (by omega))) ?_)))
  refine zC rfl bq (by simp;omega) ?_
  exact zk 2 rfl (WP.exit (U t _ _ rfl ⟨rfl,rfl,rfl,rfl,rfl,rfl,aa⟩ s))
 |succ m ih =>
  intro q t h E Q hq ht s hE J U
  have I:q<t.length:=by omega
  refine WP.loop (WP.has hE (zK 6 rfl (zb rfl (by exact bP (aV (by omega) (by omega))) ?_)))
  refine zB rfl bq (by simp;omega) ?_
  refine zk 4 rfl (WP.block (zK 4 rfl (zo rfl (dD (r:=.ptr p6 q) rfl rfl (by rw[Sy,show(decide ((0:Int)≤(q:Int))&&decide ((q:Int)<((512:Nat):Int)))=true by simp;omega,ak];simp)) ?_)))
  cases hm:t.getD q false with
  |true =>
   refine zt rfl (aT rfl (s.ld (k:=0) rfl jQ (Ap I))) (hm) (zk 6 rfl (WP.ret ?_))
   refine J ?_ _ _ rfl s.drop
   rw[markL,aE hm]
  |false =>
   refine zh rfl (aT rfl (s.ld (k:=0) rfl jQ (Ap I))) (hm) (zk 5 rfl (zo rfl (dD (r:=.ptr p6 q) rfl rfl (by rw[Sy,show(decide ((0:Int)≤(q:Int))&&decide ((q:Int)<((512:Nat):Int)))=true by simp;omega,ak];simp)) ?_))
   refine zS rfl (s.dV (k:=0) rfl xw (by simp[qG,ht]) (by omega) rfl rfl) ?_
   intro h s
   dsimp only[setA] at s
   rw[Kl] at s
   refine zv (zr rfl (zm rfl (zb rfl (by exact bP (aV (by omega) (by omega))) ?_)))
   refine za rfl (zv ?_)
   have e:markL (m+1) q t=markL m (q+1) (t.set q true):=by rw[markL,ah (by rw[hm];decide)]
   rw[e] at J U
   exact ih (q+1) (t.set q true) h _ Q (by omega) (by simp[ht]) s ⟨rfl,rfl,rfl,rfl,rfl,rfl,rfl,rfl,rfl,aa⟩ J U
theorem LX (hT:W told){p3:Nat}{low:Nat}(hX:cX X (dc x l))(hl:l.length=512)(b8:∀b∈l,b<256)(B7:x.cells=[x])(hx2:storable x=true)(hn:n=jZ l)(sn:26+4*n≤low)(Yp:low≤512): ∀(m i:Nat) (t:List Bool) (h:H) (E:List (Nat×V)) (Q:Ex→List (Nat×V)→H→Prop),i+m=n→t.length=512 →
  Sat h (pt p6 (.cells 512 (qG t) false)::pt p3 (.cells 1 [x] false)::X::S)→Has E [(3,.ptr p3 0),(4,.int .i64 (n:Int)),(5,.int .i64 (low:Int)),(6,.ptr p6 0),(35,.int .i64 (n:Int)),(36,.int .i64 (i:Int))] →
  (cellsL l low m i t=false→∀E' h',look E' 2=some (.bool false)→Sat h' (X::S)→Q .ret E' h') →
  (cellsL l low m i t=true→∀E' h',Sat h' (X::S)→Q (.exit 0) E' h') →
  WP ⟨Tryz.prog,told⟩ 68 (.loop gdO) E h Q:=by
 intro m
 induction m with
 |zero =>
  intro i t h E Q hi ht s hE J hx
  refine WP.loop (WP.has hE (zg rfl (zC rfl bq (by simp;omega) ?_)))
  exact zk 3 rfl (WP.exit (hx rfl _ _ s.drop.drop))
 |succ m ih =>
  intro i t h E Q hi ht s hE J hx
  have hf:=qm (l:=l) (a:=26+4*i) (z:=2) b8
  have hz:=qm (l:=l) (a:=26+4*i+2) (z:=2) b8
  have ef:jH l i=dU l (26+4*i) 2:=rfl
  have ez:mG l i=dU l (26+4*i+2) 2:=rfl
  refine WP.loop (WP.has hE (zg rfl (zB rfl bq (by simp;omega) ?_)))
  refine zk 5 rfl (WP.block (zK 7 rfl (zl rfl (s.fN (k:=1) rfl gR dW) (zm rfl (zc rfl (T0 (i:=i) hT s (k:=2) rfl hX hl (by omega)) ?_)))))
  rintro r h' ⟨rfl,s⟩
  refine zk 11 rfl ?_
  refine zd rfl (aJ rfl rfl bq) ?_ ?_
  ·intro U
   have U:jH l i<low:=by simp at U;omega
   refine zk 12 rfl (WP.ret ?_)
   refine J ?_ _ _ rfl s.drop.drop
   rw[cellsL,aE (.inl U)]
  ·intro U
   have U:low≤jH l i:=by simp at U;omega
   refine zk 3 rfl (zb rfl (by exact bP (aV (by omega) (by omega))) ?_)
   refine zd rfl (aJ rfl rfl dS) ?_ ?_
   ·intro I
    have I:512<jH l i+mG l i:=by simp at I;omega
    refine zk 7 rfl (WP.ret ?_)
    refine J ?_ _ _ rfl s.drop.drop
    rw[cellsL,aE (.inr I)]
   ·intro I
    have I:jH l i+mG l i≤512:=by simp at I;omega
    refine zk 9 rfl (WP.block ?_)
    have e:cellsL l low (m+1) i t=(match markL (mG l i) (jH l i) t with|none=>false|some t'=>cellsL l low m (i+1) t'):=by rw[cellsL,ah (by omega)]
    rw[e] at J hx
    refine LW I (mG l i) (jH l i) t _ _ _ rfl ht s ⟨rfl,rfl,rfl,rfl,rfl,rfl,rfl,rfl,rfl,aa⟩ (fun hm E' h' h2 s' => ?_) (fun t' E' h' hm fW s' => ?_)
    ·rw[hm] at J
     exact J rfl _ _ h2 s'.drop
    ·rw[hm] at J hx
     refine WP.has fW (zr rfl (zb rfl (by exact bP (aV (by omega) (by omega))) ?_))
     refine zm rfl (zv ?_)
     exact ih (i+1) t' h' _ Q (by omega) (by rw[EY _ _ _ _ hm,ht]) s' ⟨rfl,rfl,rfl,rfl,rfl,rfl,aa⟩ J hx
theorem Km (hT:W told)(s:Sat h (X::S))(hX:cX X (dc v l))(i_:l.length<9223372036854775808):
  Call ⟨Tryz.prog,told⟩ 90 [v] h fun r h'=>r=.bool (bR l)∧Sat h' (X::S):=by
 have hv:=s.aL (k:=0) rfl hX
 refine Call.of_wp (hT.free _ rfl) Tryz.func90 rfl rfl (zK 8 rfl (zo rfl (aY rfl rfl rfl (bk aW (s.aL (k:=0) rfl hX))) ?_))
 refine zd rfl (aJ rfl rfl aX) ?_ ?_
 ·intro hq
  have hq:l.length≠512:=by simp at hq;omega
  exact zk 12 rfl (WP.ret ⟨aa,_,rfl,by rw[bR,eW hq,hG],s⟩)
 ·intro hq
  have hq:l.length=512:=by simp at hq;omega
  have hb:l[13]?=some (l[13]'(by omega)):=bn _
  generalize Kk:(l[13]'(by omega))=b at hb
  have kC:l.getD 13 0=b:=by rw[qI,hb];rfl
  obtain⟨id,off,e1,e2⟩:=iz hv hb
  refine zk 2 rfl (zo rfl (dD (r:=.ptr id off) rfl rfl e1) (zl rfl e2 ?_))
  refine zd rfl (aJ rfl rfl aX) ?_ ?_
  ·intro I
   have I:b≠0:=by simp at I;omega
   exact zk 7 rfl (WP.ret ⟨aa,_,rfl,by rw[bR,er hq,kC,eW I,hG,o_],s⟩)
  ·intro I
   have I:b=0:=by simp at I;omega
   obtain⟨pi,po,pc,rfl⟩:=ku hv (by omega)
   refine zk 7 rfl (zo rfl (dn rfl (by rw[Cm];rfl)) ?_)
   refine ay.cV s rfl rfl rfl (cK oJ) (fun p3 h s => ?_)
   refine zS rfl (s.iq (j:=0) rfl dW rfl rfl) (fun h s => ?_)
   refine zk 2 rfl ?_
   have s0:=s
   refine WP.drawn [none,none,some (0,2),af,af,af] rfl (by kernel_rfl) (by kernel_rfl) ?_
   refine zL rfl (s.fN (k:=0) rfl gR dW) (au.any rfl rfl rfl rfl (OpR.call rfl rfl rfl rfl (Qp hT s (k:=1) rfl hX hq)) ?_)
   rintro r h' ⟨rfl,s⟩
   have s1:=s
   refine zL rfl (s.fN (k:=0) rfl gR dW) (au.any rfl rfl rfl rfl (OpR.call rfl rfl rfl rfl (Wf hT s (k:=1) rfl hX hq)) ?_)
   rintro r h' ⟨rfl,s⟩
   refine zA rfl (zA rfl ?_)
   refine au.nil ⟨⟨aa,aa,dR (.inr ⟨rfl,⟨_,aT rfl (s0.fN (k:=0) rfl gR dW)⟩,aU _ rfl⟩) (.inr ⟨rfl,⟨_,aT rfl (s1.fN (k:=0) rfl gR dW)⟩,aU _ rfl⟩),aa,aa,aa,aa⟩,?_⟩
   have xp:=qm (l:=l) (a:=14) (z:=2) hv.1
   have uf:=qm (l:=l) (a:=16) (z:=2) hv.1
   have ec:jZ l=dU l 14 2:=rfl
   have el:iK l=dU l 16 2:=rfl
   refine zK 4 rfl (zb rfl (by exact A9 (aV (by omega) (by omega))) ?_)
   refine zb rfl (by exact bP (aV (by omega) (by omega))) ?_
   refine zm rfl ?_
   refine zd rfl (aJ rfl rfl dS) ?_ ?_
   ·intro J
    have J:iK l<26+4*jZ l:=by simp at J;omega
    exact zk 10 rfl (WP.ret ⟨aa,_,rfl,by rw[bR,er hq,kC,er I,eW (by omega:¬(26+4*jZ l≤iK l∧iK l≤512))];rfl,s.drop⟩)
   ·intro J
    have J:26+4*jZ l≤iK l:=by simp at J;omega
    refine zk 2 rfl ?_
    refine zd rfl (aJ rfl rfl dS) ?_ ?_
    ·intro U
     have U:512<iK l:=by simp at U;omega
     exact zk 7 rfl (WP.ret ⟨aa,_,rfl,by rw[bR,er hq,kC,er I,eW (by omega:¬(26+4*jZ l≤iK l∧iK l≤512))];rfl,s.drop⟩)
    ·intro U
     have U:iK l≤512:=by simp at U;omega
     refine zk 6 rfl (ay.cV s rfl rfl rfl (cK Qq) ?_)
     intro p6 h s
     have xz:(qG (List.replicate 512 false)).length=512:=by rw[qG,iE,gM]
     dsimp only[V.cells] at s
     rw[xz] at s
     refine zk 7 rfl (WP.block ?_)
     have hg:bR l=cellsL l (iK l) (jZ l) 0 (List.replicate 512 false):=by
      rw[bR,er hq,kC,er I,er (⟨J,U⟩:26+4*jZ l≤iK l∧iK l≤512)];rfl
     refine LX hT hX hq hv.1 rfl rfl rfl J U (jZ l) 0 (List.replicate 512 false) _ _ _ (by omega) gM s ⟨rfl,rfl,rfl,rfl,rfl,rfl,aa⟩ (fun hc E' h' h2 s' => ?_) (fun hc E' h' s' => ?_)
     ·rw[hg,hc]
      exact⟨aa,_,ny h2,rfl,s'⟩
     ·rw[hg,hc]
      exact WP.has (F:=[]) aa (zK 4 rfl (WP.ret ⟨aa,_,rfl,rfl,s'⟩))
end
section
variable {told:dI} {v:V}
theorem vM (I:W told)(s:Sat h (bH v l::S))(J:z≤8)(U:l.length+z≤140737488355328):
  Call ⟨Tryz.prog,told⟩ 71 [v,.int .i64 (z:Int),.int .u64 (n:Int)] h fun r h'=>Sat h' (bH r (l++le z n)::S) :=
 (NJ I.SE s.wf (s.buf (k:=0) rfl) J U).mono fun _ _ ⟨h1,h2,h3⟩=>s.Ad h2 h1 h3
theorem NQ (hT:W told)(s:Sat h (bH v l::S))(hz:1≤z)(SG:z≤8)(U:a+z≤l.length)(i_:l.length≤65536):
  Call ⟨Tryz.prog,told⟩ 88 [.agg [v],.int .i64 (a:Int),.int .i64 (z:Int),.int .u64 (n:Int)] h fun r h'=>r=.bD []∧Sat h' (bH v (dJ l a (le z n))::S):=by
 obtain⟨I,_,cap,_,rfl,_⟩:=s.kq (by omega)
 refine Call.of_wp (hT.free _ rfl) Tryz.func88 rfl rfl (zg rfl ?_)
 refine ay.cV s rfl rfl rfl (gP rfl rfl) (fun p4 h s => ?_)
 refine zv ?_
 have s0:=s
 refine WP.drawn [some (0,2),some (0,2),some (0,2),some (0,2),some (0,2),some (0,2),some (0,2),af,af,af,af] rfl (by kernel_rfl) (by kernel_rfl) ?_
 refine zF rfl (pM _ _) (zL rfl (s.ld (k:=0) rfl bL rfl) (zM rfl (zM rfl (zM rfl (zO rfl (aJ rfl rfl (by exact bP (aV (by omega) (by omega)))) ?_)))))
 have ez:((a:Int)+(z:Int)).toNat=a+z:=by omega
 have ea:((a:Int)).toNat=a:=by omega
 refine zO rfl (cG (p:=some (.int .i64 (a:Int))) (q:=some (.int .i64 ((a:Int)+(z:Int)))) (m:=none) (p':=some a) (q':=some (a+z)) (m':=none) rfl rfl rfl rfl (by rw[gG (by omega),ea]) (by rw[gG (by omega),ez]) rfl (iM (s.buf (k:=1) rfl).view (by omega) U).1) ?_
 refine zM rfl (zM rfl (au.any rfl rfl rfl rfl (OpR.call rfl rfl rfl rfl (vM hT s.yl SG (by simp;omega))) ?_))
 intro u h s
 have s:=s.ae [1,1,0]
 dsimp only[List.nil_append,V.cells,List.length_cons,List.length_nil,Nat.reduceAdd,bringA,getA,aQ] at s
 have s1:=s
 refine au.any rfl rfl rfl rfl (OpR.Yk rfl (s.ae [1,1]) (bJ _ _) rfl rfl rfl rfl (by omega) U (by simp[dX];omega)) ?_
 intro r h s
 have hs:∃q c,slR (V.sl I 0 l.length cap) a (a+z)=.sl I q (a+z-a) c:=by
  cases cap with
  |exact c=>exact⟨_,_,rfl⟩
  |rest e alt=>exact⟨_,_,rfl⟩
 obtain⟨q,c,hs⟩:=hs
 have J:(slR (V.sl I 0 l.length cap) a (a+z)).beq (slR (V.sl I 0 l.length cap) a (a+z))=true:=by rw[hs];exact Ce _ _ _ _
 refine au.nil ⟨⟨fun _ _=>.inr ⟨rfl,⟨_,jg rfl (pM _ _)⟩,aU _ rfl⟩,dR (.inr ⟨rfl,⟨_,aT rfl (s0.ld (k:=0) rfl bL rfl)⟩,aU _ rfl⟩) (.inr ⟨rfl,⟨_,aT rfl (s1.ld (k:=0) rfl bL rfl)⟩,aU _ rfl⟩),fun _ _=>.inr ⟨rfl,⟨_,bj rfl⟩,aU _ rfl⟩,fun _ _=>.inr ⟨rfl,⟨_,bj rfl⟩,aU _ rfl⟩,fun _ _=>.inr ⟨rfl,⟨_,bj rfl⟩,aU _ rfl⟩,fun _ _=>.inr ⟨rfl,⟨_,aJ rfl rfl (by exact bP (aV (by omega) (by omega)))⟩,aU _ rfl⟩,dR (.inr ⟨rfl,⟨_,cG (p:=some (.int .i64 (a:Int))) (q:=some (.int .i64 ((a:Int)+(z:Int)))) (m:=none) (p':=some a) (q':=some (a+z)) (m':=none) rfl rfl rfl rfl (by rw[gG (by omega),ea]) (by rw[gG (by omega),ez]) rfl (iM (s0.buf (k:=1) rfl).view (by omega) U).1⟩,J⟩) (.inr ⟨rfl,⟨_,cG (p:=some (.int .i64 (a:Int))) (q:=some (.int .i64 ((a:Int)+(z:Int)))) (m:=none) (p':=some a) (q':=some (a+z)) (m':=none) rfl rfl rfl rfl (by rw[gG (by omega),ea]) (by rw[gG (by omega),ez]) rfl (iM (s1.buf (k:=1) rfl).view (by omega) U).1⟩,J⟩),aa,aa,aa,aa,aa⟩,?_⟩
 refine⟨aa,_,rfl,rfl,?_⟩
 rw[show a+z-a=z by omega,jy (by rw[dX];omega)] at s
 exact(s.del 1).del 1
theorem CD (U:W told)(s:Sat h (X::S))(hX:cX X (dc v l))(J:l.length<9223372036854775808):
  Call ⟨Tryz.prog,told⟩ 178 [v] h fun r h'=>Sat h' (X::S)∧((bR l=true∧r=.bD [.agg [v],.int .i64 0])∨(bR l=false∧r=.bD [.agg [.bw],.int .i64 4])):=by
 have hv:=s.aL (k:=0) rfl hX
 refine Call.of_wp (U.free _ rfl) Tryz.func178 rfl rfl (zg rfl ?_)
 refine ay.cV s rfl rfl rfl (cK oJ) (fun p2 h s => ?_)
 refine zk 6 rfl (zc rfl (Km U (s.ae [1]) hX J) ?_)
 rintro r h' ⟨rfl,s⟩
 cases hg:bR l with
 |true =>
  have I:1≤l.length:=by
   have:l.length=512:=by simp only[bR,bS,gN] at hg;exact hg.1
   omega
  obtain⟨pi,po,pc,rfl⟩:=ku hv I
  refine zo rfl (dQ rfl rfl) (zk 6 rfl (zo rfl (dn rfl (by rw[Cm];rfl)) ?_))
  refine zS rfl (s.iq (j:=1) rfl dW rfl rfl) (fun h s => ?_)
  refine zk 2 rfl ?_
  refine WP.ret ⟨aa,_,FO rfl (s.fN (k:=1) rfl gR dW) rfl,?_⟩
  exact⟨s.del 1,.inl ⟨rfl,rfl⟩⟩
 |false =>
  refine zo rfl (dQ rfl rfl) (zk 4 rfl (zo rfl (dn rfl (by rw[Cm];rfl)) ?_))
  refine zS rfl (s.iq (j:=1) rfl dW rfl rfl) (fun h s => ?_)
  refine zk 2 rfl ?_
  refine WP.ret ⟨aa,_,FO rfl (s.fN (k:=1) rfl gR dW) rfl,?_⟩
  exact⟨s.del 1,.inr ⟨rfl,rfl⟩⟩
theorem fb (I:bR l=true): l.length=512:=by simp only[bR,bS,gN] at I;exact I.1
theorem NR (hT:W told)(s:Sat h (X::S))(J:cX X (dc v l))(U:l.length<9223372036854775808):
  Call ⟨Tryz.prog,told⟩ 192 [v] h fun r h'=>(bR l=true∧∃u,r=.bD [.agg [u],.int .i64 0]∧Sat h' (bH u l::X::S))∨(bR l=false∧r=.bD [.agg [.bw],.int .i64 4]∧Sat h' (X::S)):=by
 have hv:=s.aL (k:=0) rfl J
 refine Call.of_wp (hT.free _ rfl) Tryz.func192 rfl rfl (zg rfl ?_)
 refine ay.cV s rfl rfl rfl (cK oJ) (fun p2 h s => ?_)
 refine zk 5 rfl (zc rfl (CD hT (s.ae [1]) J U) ?_)
 rintro r h' ⟨s,(⟨I,rfl⟩|⟨I,rfl⟩)⟩
 ·have aaC:=fb I
  obtain⟨pi,po,pc,rfl⟩:=ku hv (by omega)
  refine zk 3 rfl ?_
  refine ay.cV s rfl rfl rfl (cK oJ) (fun p4 h s => ?_)
  refine zS rfl (s.iq (j:=0) rfl dW rfl rfl) (fun h s => ?_)
  refine zk 6 rfl (zC rfl aX (rfl) (zk 4 rfl ?_))
  have s0:=s
  refine WP.drawn [af,af,af,af,some (0,2),some (0,2),af,af,af,af] rfl (by kernel_rfl) (by kernel_rfl) ?_
  refine zF rfl (pM _ _) (zL rfl (s.ld (k:=0) rfl bL rfl) (zO rfl (aY rfl rfl rfl (pQ rfl aW)) (au.any rfl rfl rfl rfl (OpR.vL rfl s rfl rfl rfl rfl (by omega)) ?_)))
  intro u h s
  have s:=s.ae [1,1,1,0]
  have s1:=s
  refine zF rfl (pM _ _) (zL rfl (s.ld (k:=0) rfl bL rfl) (au.any rfl rfl rfl rfl (OpR.oO rfl (s.ae [3,1]) J rfl rfl rfl rfl (by simp;omega)) ?_))
  intro u2 h s
  rw[eE] at s
  obtain⟨xy,_,cap,_,rfl,_⟩:=s.kq (by omega)
  have s2:=s
  refine zO rfl (dn rfl (by rw[Cm];rfl)) ?_
  refine au.ik rfl rfl rfl (OpR.dg rfl rfl rfl (s.iq (j:=3) rfl dW rfl rfl)) ?_
  rintro w h ⟨rfl,s⟩
  have s3:=s
  refine zA rfl ?_
  refine au.nil ⟨⟨aa,aa,aa,aa,fun _ _=>.inr ⟨rfl,⟨_,jg rfl (pM _ _)⟩,aU _ rfl⟩,dR (.inr ⟨rfl,⟨_,aT rfl (s0.ld (k:=0) rfl bL rfl)⟩,aU _ rfl⟩) (.inr ⟨rfl,⟨_,aT rfl (s1.ld (k:=0) rfl bL rfl)⟩,aU _ rfl⟩),aa,aa,aa,aa,aa⟩,?_⟩
  refine WP.ret ⟨aa,_,FO rfl (s.fN (k:=3) rfl gR dW) rfl,?_⟩
  exact .inl ⟨I,_,rfl,(s.del 2).del 2⟩
 ·skip
  refine zk 3 rfl ?_
  refine ay.cV s rfl rfl rfl (cK oJ) (fun p4 h s => ?_)
  refine zS rfl (s.iq (j:=0) rfl dW rfl rfl) (fun h s => ?_)
  refine zk 6 rfl (zB rfl aX (rfl) (zk 4 rfl (zo rfl (dn rfl (by rw[Cm];rfl)) ?_)))
  refine zm rfl ?_
  refine zS rfl (s.iq (j:=2) rfl dW rfl rfl) (fun h s => ?_)
  refine zk 2 rfl ?_
  refine WP.ret ⟨aa,_,FO rfl (s.fN (k:=2) rfl gR dW) rfl,?_⟩
  exact .inr ⟨I,rfl,(s.del 2).del 0⟩
def ov (l:List Nat)(n:Nat): List Nat:=dJ l 4 (le 8 n)
def cP (l:List Nat)(n:Nat): List Nat:=dJ (ov l n) 0 (le 4 (Cz 0 ((ov l n).drop 4)))
theorem wJ (I:l.length=512): (ov l n).length=512:=by rw[ov,jm (by rw[dX];omega),I]
theorem Kn (I:W told)(s:Sat h (X::S))(hX:cX X (dc v l))(i_:l.length<9223372036854775808):
  Call ⟨Tryz.prog,told⟩ 131 [v,.int .u64 (n:Int)] h fun r h'=>(bR l=true∧∃u,r=.bD [u,.int .i64 0]∧Sat h' (bH u (cP l n)::X::S))∨(bR l=false∧r=.bD [.bw,.int .i64 4]∧Sat h' (X::S)):=by
 refine Call.of_wp (I.free _ rfl) Tryz.func131 rfl rfl (zK 8 rfl (zc rfl (NR I s hX i_) ?_))
 rintro r h' (⟨U,u,rfl,s⟩|⟨U,rfl,s⟩)
 ·have J:=fb U
  have tQ:(ov l n).length=512:=wJ J
  obtain⟨xy,_,cap,_,rfl,_⟩:=s.kq (by omega)
  refine zk 3 rfl ?_
  refine ay.cV s rfl rfl rfl (cK oJ) (fun p6 h s => ?_)
  refine zS rfl (s.iq (j:=0) rfl dW rfl rfl) (fun h s => ?_)
  refine zk 6 rfl (zC rfl aX (rfl) (zk 5 rfl (zl rfl (s.fN (k:=0) rfl gR dW) (zm rfl (zc rfl (NQ (a:=4) (z:=8) I (s.ae [1]) (by decide) (by decide) (by omega) (by omega)) ?_)))))
  rintro r h' ⟨rfl,s⟩
  have s:=s.ae [1,0]
  have s:Sat _ (_::bH _ (ov l n)::_):=s
  refine zk 2 rfl ?_
  have s0:=s
  have uv:=(s.buf (k:=1) rfl).view.1
  have ec:(ov l n).length=l.length:=by omega
  rw[←ec] at *
  refine WP.drawn [some (0,2),af,af,af,af,af,af] rfl (by kernel_rfl) (by kernel_rfl) ?_
  refine zL rfl (s.fN (k:=0) rfl gR dW) (zF rfl (pM _ _) (zL rfl (s.ld (k:=0) rfl bL rfl) (zO rfl (cG (p:=some (.int .i64 4)) (q:=none) (m:=none) (p':=some 4) (q':=none) (m':=none) rfl rfl rfl rfl rfl rfl rfl (eA (s.buf (k:=1) rfl).view (a:=4) (by omega)).1) ?_)))
  refine au.any rfl rfl rfl rfl (OpR.call rfl rfl rfl rfl (SF I s (k:=1) rfl (nX (bJ _ _) (a:=4) (by omega)) (by simp;omega))) ?_
  rintro r h' ⟨rfl,rfl⟩
  have s1:=s
  have hc:=Bf (s:=0) (l:=(ov l n).drop 4) (by decide) (fun x hx=>uv x (oY hx))
  refine au.op rfl rfl rfl (by simp only[isEff,cD]) (cj rfl (by exact js Tryz.underlying285 cD (fe (by omega) (by omega)))) ?_
  refine au.any rfl rfl rfl rfl (OpR.call rfl rfl rfl rfl (NQ (a:=0) (z:=4) I (s.ae [1]) (by decide) (by decide) (by omega) (by omega))) ?_
  rintro r h ⟨rfl,s⟩
  have s:=s.ae [1,0]
  refine au.nil ⟨⟨dR (.inr ⟨rfl,⟨_,aT rfl (s0.fN (k:=0) rfl gR dW)⟩,aU _ rfl⟩) (.inr ⟨rfl,⟨_,aT rfl (s1.fN (k:=0) rfl gR dW)⟩,aU _ rfl⟩),aa,aa,aa,aa,aa,aa,aa⟩,?_⟩
  exact zg rfl (zY s 0 pM bL rfl (zk 3 rfl (WP.ret ⟨aa,_,rfl,.inl ⟨U,_,rfl,s.drop⟩⟩)))
 ·skip
  refine zk 3 rfl ?_
  refine ay.cV s rfl rfl rfl (cK oJ) (fun p6 h s => ?_)
  refine zS rfl (s.iq (j:=0) rfl dW rfl rfl) (fun h s => ?_)
  exact zk 6 rfl (zB rfl aX (rfl) (zk 8 rfl (WP.ret ⟨aa,_,rfl,.inr ⟨U,rfl,s.drop⟩⟩)))
theorem aaD {d:TypeId}{x:Operand}{r:V}(I:bl E x=some v)(J:arrPtrV P d v=some r): opE P E h (.sliceToArrayPointer d x)=some (r,h):=by simp only[opE,jO,I,J,bz]
theorem T1 {cap:Cap}(I:View h (.sl id off n cap) l)(J:isAggT P t=some true)(hs:bB P t=some l.length): loadV P h t (.ptr id off)=some (.agg (ofBytes l)):=by
 have:=I.rdN
 obtain⟨rfl,U⟩:=this
 simp only[loadV,J,hs,U,mR]
theorem FC : ∀(l m:List Nat),l.length=m.length→intsBeq .u8 (ofBytes l) (ofBytes m)=some (decide (l=m)):=by
 intro l
 induction l with
 |nil=>intro m hm;cases m with
  |nil=>rfl
  |cons x m=>simp at hm
 |cons x l J=>intro m hm;cases m with
  |nil=>simp at hm
  |cons y m =>
   have hi:=J m (by simpa using hm)
   simp only[ofBytes,gO] at hi ⊢
   simp only[intsBeq,ikBeq,jA,ak,hi,nY]
   by_cases I:x=y
   ·subst I;simp
   ·have:¬ ((x:Int)=(y:Int)):=by omega
    simp[this,I]
theorem Qr : buildV Tryz.prog 281 []=some (.agg (ofBytes (List.replicate 512 0))):=by kernel_rfl
theorem SH {x:Operand}{m:List Nat}(hu:P.underlying t=some (.array n e))(he:P.underlying e=some (.int .u8))(hs:bB P e=some 1)(I:l.length=n)(hm:m.length=n):
  binV P h .eql t x y (.agg (ofBytes l)) (.agg (ofBytes m))=some (.bool (decide (l=m))):=by
 simp only[binV,eqArr,hu,he,hs,fu,I,hm,gx,jA,ak]
 rw[FC l m (by omega)]
 rfl
def dM (l:List Nat): Int:=if l=List.replicate 512 0 then 0 else if bR l=false then 4 else if dU l 0 4≠Cz 0 (l.drop 4) then 8 else 0
theorem wK (hT:W told)(s:Sat h (X::S))(J:cX X (dc v l))(i_:l.length<9223372036854775808):
  Call ⟨Tryz.prog,told⟩ 110 [v] h fun r h'=>r=.int .i64 (dM l)∧Sat h' (X::S):=by
 have hv:=s.aL (k:=0) rfl J
 have hz:(List.replicate 512 0).length=512:=gM
 -- what follows when the page is no page of noughts
 refine Call.of_wp (hT.free _ rfl) Tryz.func110 rfl rfl (zK 8 rfl (zo rfl (aY rfl rfl rfl (bk aW (s.aL (k:=0) rfl J))) ?_))
 refine zd rfl (aJ rfl rfl bZ) ?_ ?_
 ·intro U
  have U:l.length=512:=by simp at U;omega
  obtain⟨pi,po,pc,rfl⟩:=ku hv (by omega)
  refine zk 2 rfl (zo rfl (aaD (r:=.ptr pi po) rfl (by simp only[arrPtrV,G1];rw[U];rfl)) ?_)
  refine zl rfl (T1 hv Ye (by rw[U];exact Yd)) ?_
  refine zo rfl (dn rfl Qr) ?_
  by_cases hn:l=List.replicate 512 0
  ·skip
   exact zB rfl (SH G1 Tryz.underlying5 Sl U hz) (decide_eq_true hn) (zk 7 rfl (WP.ret ⟨aa,_,rfl,by rw[dM,aE hn],s⟩))
  ·skip
   refine zC rfl (SH G1 Tryz.underlying5 Sl U hz) (decide_eq_false hn) (zk 7 rfl (zc rfl (CD hT s J i_) ?_))
   rintro r h' ⟨s,(⟨hg,rfl⟩|⟨hg,rfl⟩)⟩
   ·refine ay.op rfl rfl rfl (bj rfl) ?_
    refine zk 2 rfl ?_
    refine ay.cV s rfl rfl rfl (cK oJ) (fun p3 h s => ?_)
    dsimp only[V.cells,List.length_cons,List.length_nil,Nat.reduceAdd] at s
    refine zS rfl (s.iq (j:=0) rfl dW rfl rfl) (fun h s => ?_)
    dsimp only[setA] at s
    refine zk 3 rfl (WP.block (zK 3 rfl (zC rfl aX (rfl) (zk 4 rfl ?_))))
    have s0:=s
    refine WP.drawn [none,none,some (0,2),some (0,2),af,af,af,af] rfl (by kernel_rfl) (by kernel_rfl) ?_
    refine zL rfl (s.fN (k:=0) rfl gR dW) (au.any rfl rfl rfl rfl (OpR.call rfl rfl rfl rfl (tP hT s (k:=1) rfl J (by decide) (by decide) (by decide) (by omega) (by omega))) ?_)
    rintro r h' ⟨rfl,s⟩
    have s1:=s
    refine zM rfl (zO rfl (cG (p:=some (.int .i64 4)) (q:=none) (m:=none) (p':=some 4) (q':=none) (m':=none) rfl rfl rfl rfl rfl rfl rfl (eA (s.aL (k:=1) rfl J) (a:=4) (by omega)).1) ?_)
    refine au.any rfl rfl rfl rfl (OpR.call rfl rfl rfl rfl (SF hT s (k:=1) rfl (nX J (a:=4) (by omega)) (by simp;omega))) ?_
    rintro r h' ⟨rfl,rfl⟩
    have hc:=Bf (s:=0) (l:=l.drop 4) (by decide) (fun x hx=>hv.1 x (oY hx))
    have hs:∃q c,slR (V.sl pi po l.length pc) 4 l.length=.sl pi q (l.length-4) c:=by
     cases pc with
     |exact c=>exact⟨_,_,rfl⟩
     |rest e alt=>exact⟨_,_,rfl⟩
    obtain⟨q,c,hs⟩:=hs
    have SI:(slR (V.sl pi po l.length pc) 4 l.length).beq (slR (V.sl pi po l.length pc) 4 l.length)=true:=by rw[hs];exact Ce _ _ _ _
    refine au.op rfl rfl rfl (by simp only[isEff,bK]) (cj rfl (by exact js Tryz.underlying285 bK (aV (by omega) (by omega)))) ?_
    by_cases I:dU l 0 4=Cz 0 (l.drop 4)
    ·skip
     refine au.mN rfl rfl rfl rfl (aJ rfl rfl aX) (by simp;exact_mod_cast I) ?_
     refine zA rfl ?_
     refine au.nil ⟨⟨aa,aa,fun _ _=>.inr ⟨rfl,⟨_,bj rfl⟩,aU _ rfl⟩,dR (.inr ⟨rfl,⟨_,cG (p:=some (.int .i64 4)) (q:=none) (m:=none) (p':=some 4) (q':=none) (m':=none) rfl rfl rfl rfl rfl rfl rfl (eA (s0.aL (k:=1) rfl J) (a:=4) (by omega)).1⟩,SI⟩) (.inr ⟨rfl,⟨_,cG (p:=some (.int .i64 4)) (q:=none) (m:=none) (p':=some 4) (q':=none) (m':=none) rfl rfl rfl rfl rfl rfl rfl (eA (s1.aL (k:=1) rfl J) (a:=4) (by omega)).1⟩,SI⟩),aa,aa,aa,aa,aa⟩,?_⟩
     refine zj rfl (WP.skip (zg rfl (za rfl (zv ?_))))
     refine WP.ret ⟨aa,_,rfl,?_⟩
     exact⟨by rw[dM,ah hn,ah (by rw[hg];decide),ah (by simpa using I)],s.drop⟩
    ·skip
     refine au.oc rfl rfl rfl rfl (aJ rfl rfl aX) (by simp;exact_mod_cast I) ?_
     refine zA rfl ?_
     refine au.nil ⟨⟨aa,aa,fun _ _=>.inr ⟨rfl,⟨_,bj rfl⟩,aU _ rfl⟩,dR (.inr ⟨rfl,⟨_,cG (p:=some (.int .i64 4)) (q:=none) (m:=none) (p':=some 4) (q':=none) (m':=none) rfl rfl rfl rfl rfl rfl rfl (eA (s0.aL (k:=1) rfl J) (a:=4) (by omega)).1⟩,SI⟩) (.inr ⟨rfl,⟨_,cG (p:=some (.int .i64 4)) (q:=none) (m:=none) (p':=some 4) (q':=none) (m':=none) rfl rfl rfl rfl rfl rfl rfl (eA (s1.aL (k:=1) rfl J) (a:=4) (by omega)).1⟩,SI⟩),aa,aa,aa,aa,aa⟩,?_⟩
     exact zK 5 rfl (WP.ret ⟨aa,_,rfl,by rw[dM,ah hn,ah (by rw[hg];decide),aE I],s.drop⟩)
   ·skip
    refine zk 3 rfl ?_
    refine ay.cV s rfl rfl rfl (cK oJ) (fun p3 h s => ?_)
    refine zS rfl (s.iq (j:=0) rfl dW rfl rfl) (fun h s => ?_)
    exact zk 3 rfl (WP.block (zK 3 rfl (zB rfl aX (rfl) (zk 8 rfl (WP.ret ⟨aa,_,rfl,by rw[dM,ah hn,aE hg],s.drop⟩)))))
 ·intro U
  have U:l.length≠512:=by simp at U;omega
  have hn:l≠List.replicate 512 0:=fun e=>U (by rw[e,hz])
  have hg:bR l=false:=by rw[bR,eW U,hG]
  refine zk 13 rfl (zc rfl (CD hT s J i_) ?_)
  rintro r h' ⟨s,(⟨SA,rfl⟩|⟨_,rfl⟩)⟩
  ·rw[hg] at SA;cases SA
  ·refine ay.op rfl rfl rfl (bj rfl) ?_
   refine zk 2 rfl ?_
   refine ay.cV s rfl rfl rfl (cK oJ) (fun p3 h s => ?_)
   refine zS rfl (s.iq (j:=0) rfl dW rfl rfl) (fun h s => ?_)
   exact zk 3 rfl (WP.block (zK 3 rfl (zB rfl aX (rfl) (zk 8 rfl (WP.ret ⟨aa,_,rfl,by rw[dM,ah hn,aE hg],s.drop⟩)))))
theorem rQ {b:Nat}(U:View h v l)(hb:l[i]?=some b)(he:indexAddrV Tryz.prog 23 v (.int .i64 (i:Int))=some (.ptr id off)): loadV Tryz.prog h 5 (.ptr id off)=some (.int .u8 (b:Int)):=by
 obtain⟨I,off',J,e2⟩:=iz U hb
 rw[he] at J
 have e3:V.ptr id off=V.ptr I off':=cA J
 rw[e3]
 exact e2
theorem T2 (hT:W told)(s:Sat h (X::S))(I:cX X (dc v l))(i_:l.length<9223372036854775808):
  Call ⟨Tryz.prog,told⟩ 149 [v] h fun r h'=>Sat h' (X::S)∧((bR l=true∧r=.bD [.int .i64 (l.getD 12 0:Nat),.int .u64 (dU l 4 8),.int .i64 (dU l 18 4),.int .i64 (dU l 22 4),.int .i64 0]) ∨
   (bR l=false∧r=.bD [.int .i64 0,.int .u64 0,.int .i64 0,.int .i64 0,.int .i64 4])):=by
 have hv:=s.aL (k:=0) rfl I
 refine Call.of_wp (hT.free _ rfl) Tryz.func149 rfl rfl (zK 11 rfl (zc rfl (CD hT s I i_) ?_))
 rintro r h' ⟨s,(⟨hg,rfl⟩|⟨hg,rfl⟩)⟩
 ·have hq:=fb hg
  obtain⟨pi,po,pc,rfl⟩:=ku hv (by omega)
  have J:l[12]?=some (l[12]'(by omega)):=bn _
  generalize Kk:(l[12]'(by omega))=b at J
  have pz:b<256:=hv.1 b (bu J)
  have kC:l.getD 12 0=b:=by rw[qI,J];rfl
  rw[kC]
  refine zk 3 rfl ?_
  refine ay.cV s rfl rfl rfl (cK oJ) (fun p7 h s => ?_)
  refine zS rfl (s.iq (j:=0) rfl dW rfl rfl) (fun h s => ?_)
  refine zk 6 rfl (zC rfl aX (rfl) (zk 4 rfl ?_))
  have s0:=s
  obtain⟨id,off,U,e2⟩:=iz (s.aL (k:=1) rfl I) J
  refine WP.drawn [some (0,4),some (0,4),some (0,4),some (0,4),af,af,af,some (0,2),none,some (0,3),af,af,af,af,af,af] rfl (by kernel_rfl) (by kernel_rfl) ?_
  refine zM rfl (zO rfl (dD (r:=.ptr id off) rfl rfl U) (zL rfl (rQ (s.aL (k:=1) rfl I) J U) (au.op rfl rfl rfl (by simp only[isEff,bK]) (cj rfl (by exact js Tryz.underlying5 bK (aV (by omega) (by omega)))) ?_)))
  refine zM rfl (zO rfl (cG (p:=some (.int .i64 4)) (q:=some (.int .i64 12)) (m:=none) (p':=some 4) (q':=some 12) (m':=none) rfl rfl rfl rfl rfl rfl rfl (iM (s.aL (k:=1) rfl I) (a:=4) (b:=12) (by omega) (by omega)).1) ?_)
  refine au.any rfl rfl rfl rfl (OpR.call rfl rfl rfl rfl (pS hT s (k:=1) rfl (mF I (a:=4) (b:=12) (by omega) (by omega)) (by simp;omega))) ?_
  rintro r h' ⟨rfl,rfl⟩
  have s1:=s
  refine zL rfl (s.fN (k:=0) rfl gR dW) (au.any rfl rfl rfl rfl (OpR.call rfl rfl rfl rfl (tP hT s (k:=1) rfl I (by decide) (by decide) (by decide) (by omega) (by omega))) ?_)
  rintro r h' ⟨rfl,s⟩
  have s2:=s
  refine zL rfl (s.fN (k:=0) rfl gR dW) (au.any rfl rfl rfl rfl (OpR.call rfl rfl rfl rfl (tP hT s (k:=1) rfl I (by decide) (by decide) (by decide) (by omega) (by omega))) ?_)
  rintro r h' ⟨rfl,s⟩
  refine zA rfl (zA rfl (zA rfl (zA rfl (zA rfl ?_))))
  refine au.nil ⟨⟨fun _ _=>.inr ⟨rfl,⟨_,bj rfl⟩,aU _ rfl⟩,fun _ _=>.inr ⟨rfl,⟨_,dD (r:=.ptr id off) rfl rfl U⟩,aU _ rfl⟩,V2 (.inr ⟨rfl,⟨_,aT rfl (rQ (s0.aL (k:=1) rfl I) J U)⟩,aU _ rfl⟩) (.inr ⟨rfl,⟨_,aT rfl (rQ (s1.aL (k:=1) rfl I) J U)⟩,aU _ rfl⟩) (.inr ⟨rfl,⟨_,aT rfl (rQ (s2.aL (k:=1) rfl I) J U)⟩,aU _ rfl⟩) (.inr ⟨rfl,⟨_,aT rfl (rQ (s.aL (k:=1) rfl I) J U)⟩,aU _ rfl⟩),fun _ _=>.inr ⟨rfl,⟨_,cj rfl (by exact js Tryz.underlying5 bK (aV (by omega) (by omega)))⟩,aU _ rfl⟩,aa,aa,aa,dR (.inr ⟨rfl,⟨_,aT rfl (s0.fN (k:=0) rfl gR dW)⟩,aU _ rfl⟩) (.inr ⟨rfl,⟨_,aT rfl (s1.fN (k:=0) rfl gR dW)⟩,aU _ rfl⟩),aa,rN (.inr ⟨rfl,⟨_,aT rfl (s0.fN (k:=0) rfl gR dW)⟩,aU _ rfl⟩) (.inr ⟨rfl,⟨_,aT rfl (s1.fN (k:=0) rfl gR dW)⟩,aU _ rfl⟩) (.inr ⟨rfl,⟨_,aT rfl (s2.fN (k:=0) rfl gR dW)⟩,aU _ rfl⟩),aa,aa,aa,aa,aa,aa,aa⟩,?_⟩
  refine WP.ret ⟨aa,_,rfl,?_⟩
  exact⟨s.drop,.inl ⟨hg,rfl⟩⟩
 ·skip
  refine zk 3 rfl ?_
  refine ay.cV s rfl rfl rfl (cK oJ) (fun p7 h s => ?_)
  refine zS rfl (s.iq (j:=0) rfl dW rfl rfl) (fun h s => ?_)
  exact zk 6 rfl (zB rfl aX (rfl) (zk 11 rfl (WP.ret ⟨aa,_,rfl,s.drop,.inr ⟨hg,rfl⟩⟩)))
end
structure Lg where
 base:Nat
 b:List Nat
 br:List Nat
 forced:Nat
 check:Nat
variable {μ:Lg}
def gU (l:List Nat): List V:=l.map fun(n:Nat)=>V.int .i64 (n:Int)
theorem j_ (l:List Nat): (gU l).length=l.length:=by simp[gU]
def yx (p base:Nat)(bv I:V)(forced check:Nat): List V:=[.ptr p 0,.int .u64 (base:Int),bv,I,.int .i64 (forced:Int),.int .u64 (check:Int)]
def bh (q p:Nat)(μ:Lg): aS:=xs fun bv:V=>xs fun I:V=>star [pt q (.cells 6 (yx p μ.base bv I μ.forced μ.check) false),bH bv μ.b,.arr 1 I (gU μ.br)]
structure Lg.Ok (μ:Lg): Prop where
 size:μ.base+μ.b.length≤1099511627776
 many:μ.br.length≤16777216
 low:∀s∈μ.br,s<μ.b.length
 wL:μ.br.Pairwise (· < ·)
 forced:μ.forced≤μ.b.length
 len:μ.b.length≤16777216
 check:μ.check≤1099511627776
theorem Yq {x:Operand}{b:Nat}(I:a+b<4611686018427387904): binV P h .quo t x y (.int .i64 ((a:Int)+(b:Int))) (.int .i64 2)=some (.int .i64 (((a+b)/2:Nat):Int)):=by
 simp only[binV,ikBeq,ak,intV]
 rw[show intBeq 2 0=false from rfl,bf,Int.tdiv_eq_ediv_of_nonneg (by omega),aV (by omega) (by omega)]
 congr 2
section
variable {told:dI} {p:Nat} {v:V}
theorem dw : Sat h (bh q p μ::S)↔∃bv I,Sat h (pt q (.cells 6 (yx p μ.base bv I μ.forced μ.check) false)::bH bv μ.b::.arr 1 I (gU μ.br)::S):=by
 simp only[bh,fU,ej,iU,eE]
theorem iX {c:V}(s:Sat h S)(U:getA S k=some (.arr 1 v cs))(hi:cs[i]?=some c)(hu:P.underlying t=some (.slice e))(I:bB P e=some 1):
  ∃id off,indexAddrV P t v (.int .i64 (i:Int))=some (.ptr id off)∧∀t',isAggT P t'=some false→loadV P h t' (.ptr id off)=some c:=by
 have J:i<cs.length:=(List.getElem?_eq_some_iff.1 hi).1
 obtain⟨m,r,h1,h2,h3⟩:=s.at U
 rcases h3.2 with⟨_,rfl⟩|⟨id,n,cap,N,rest,rfl,hg,e1,e2,_⟩
 ·simp at hi
 ·refine⟨id,i,?_,fun t' ht=>GG ht (h1 _ _ hg) ?_⟩
  ·simp only[indexAddrV,hu,I,eD]
   rw[show(decide ((0:Int)≤(i:Int))&&decide ((i:Int)<(n:Int)))=true by simp;omega,ak]
   simp
  ·rw[gj,oW J,hi]
theorem uw (I:W told)(s:Sat h (bh q p μ::S)): Call ⟨Tryz.prog,told⟩ 52 [.ptr q 0] h fun v h'=>v=.int .u64 (μ.base:Int)∧h'=h:=by
 obtain⟨bv,J,s⟩:=dw.1 s
 exact Call.of_wp (I.free _ rfl) Tryz.func52 rfl rfl (zK 8 rfl (zY s 0 gQ fA rfl (zk 2 rfl (WP.ret ⟨aa,_,rfl,rfl,rfl⟩))))
theorem AN (I:W told)(s:Sat h (bh q p μ::S)): Call ⟨Tryz.prog,told⟩ 65 [.ptr q 0] h fun v h'=>v=.int .u64 (μ.check:Int)∧h'=h:=by
 obtain⟨bv,J,s⟩:=dw.1 s
 exact Call.of_wp (I.free _ rfl) Tryz.func65 rfl rfl (zK 8 rfl (zY s 0 pL fA rfl (zk 2 rfl (WP.ret ⟨aa,_,rfl,rfl,rfl⟩))))
theorem nZ (I:W told)(s:Sat h (bh q p μ::S))(J:μ.base+μ.b.length≤1099511627776): Call ⟨Tryz.prog,told⟩ 43 [.ptr q 0] h fun v h'=>v=.int .u64 ((μ.base:Int)+(μ.b.length:Int))∧h'=h:=by
 obtain⟨bv,U,s⟩:=dw.1 s
 refine Call.of_wp (I.free _ rfl) Tryz.func43 rfl rfl (zK 5 rfl (WP.drawn [af,af,af,af,af,af,af,af,af,af,af,af] rfl (by kernel_rfl) (by kernel_rfl) ?_))
 refine zM rfl (zN rfl (zF rfl (gQ _ _) (zL rfl (s.ld (k:=0) rfl fA rfl) (zM rfl (zN rfl (zF rfl (eH _ _) (zL rfl (s.ld (k:=0) rfl bL rfl) (zO rfl (aY rfl rfl rfl (bk aW (s.aL (k:=1) rfl (bJ _ _)))) (au.op rfl rfl rfl (by simp only[isEff,cD]) (cj rfl (by exact js bK cD (fe (by omega) (by omega)))) ?_)))))))))
 refine zO rfl (aJ rfl rfl (by exact bP (fe (by omega) (by omega)))) ?_
 refine zA rfl ?_
 refine au.nil ⟨⟨aa,aa,aa,aa,aa,aa,aa,aa,aa,aa,aa,aa,aa⟩,?_⟩
 refine WP.ret ⟨aa,_,rfl,?_⟩
 exact⟨rfl,rfl⟩
theorem qn (I:W told)(s:Sat h (bh q p μ::S))(J:μ.base+μ.b.length≤1099511627776)(U:μ.forced≤μ.b.length): Call ⟨Tryz.prog,told⟩ 16 [.ptr q 0] h fun v h'=>v=.int .u64 ((μ.base:Int)+(μ.forced:Int))∧h'=h:=by
 obtain⟨bv,sv,s⟩:=dw.1 s
 refine Call.of_wp (I.free _ rfl) Tryz.func16 rfl rfl (zK 5 rfl (WP.drawn [af,af,af,af,af,af,af,af,af,af,af] rfl (by kernel_rfl) (by kernel_rfl) ?_))
 refine zM rfl (zN rfl (zF rfl (gQ _ _) (zL rfl (s.ld (k:=0) rfl fA rfl) (zM rfl (zN rfl (zF rfl (pK _ _) (zL rfl (s.ld (k:=0) rfl dy rfl) (au.op rfl rfl rfl (by simp only[isEff,cD]) (cj rfl (by exact js bK cD (fe (by omega) (by omega)))) ?_))))))))
 refine zO rfl (aJ rfl rfl (by exact bP (fe (by omega) (by omega)))) ?_
 refine zA rfl ?_
 refine au.nil ⟨⟨aa,aa,aa,aa,aa,aa,aa,aa,aa,aa,aa,aa⟩,?_⟩
 refine WP.ret ⟨aa,_,rfl,?_⟩
 exact⟨rfl,rfl⟩
def Split (μ:Lg)(n i:Nat): Prop:=i≤μ.br.length∧(∀(j s:Nat),j<i→μ.br[j]?=some s→μ.base+s<n)∧(∀(j s:Nat),i≤j→μ.br[j]?=some s→n≤μ.base+s)
theorem D4 (J:l.Pairwise (· < ·)){b:Nat}(I:i<j)(U:l[i]?=some a)(hb:l[j]?=some b): a<b:=by
 obtain⟨h1,rfl⟩:=List.getElem?_eq_some_iff.1 U
 obtain⟨h2,rfl⟩:=List.getElem?_eq_some_iff.1 hb
 exact List.pairwise_iff_getElem.1 J _ _ h1 h2 I
noncomputable def lfL : Code:=cC [1,1,0,0,0] ((Tryz.f184.body).getD .skip)
theorem NS {sv:V}(hn:n<18446744073709551616)(I:μ.Ok)(s:Sat h (pt q (.cells 6 (yx p μ.base bv sv μ.forced μ.check) false)::bH bv μ.b::.arr 1 sv (gU μ.br)::S)): ∀(fuel lo hi:Nat) (E:List (Nat×V)) (Q:Ex→List (Nat×V)→H→Prop),hi-lo≤fuel→lo≤hi→hi≤μ.br.length →
  (∀(j s:Nat),j<lo→μ.br[j]?=some s→μ.base+s<n)→(∀(j s:Nat),hi≤j→μ.br[j]?=some s→n≤μ.base+s) →
  Has E [(0,.ptr q 0),(1,.int .u64 (n:Int)),(5,.int .i64 (lo:Int)),(6,.int .i64 (hi:Int))]→(∀E' i,Split μ n i→look E' 5=some (.int .i64 (i:Int))→Q (.exit 0) E' h)→WP ⟨Tryz.prog,told⟩ 39 (.loop lfL) E h Q:=by
 have sP:=I.many
 have wM:=I.size
 intro fuel
 induction fuel with
 |zero =>
  intro lo hi E Q hf h1 h2 h3 h4 hE hq
  refine WP.loop (WP.has hE (zK 5 rfl (zC rfl bq (by simp;omega) ?_)))
  refine zk 2 rfl (WP.exit ?_)
  have e:lo=hi:=by omega
  exact hq _ lo ⟨by omega,h3,by rw[e];exact h4⟩ rfl
 |succ fuel ih =>
  intro lo hi E Q hf h1 h2 h3 h4 hE hq
  by_cases b8:lo<hi
  ·skip
   refine WP.loop (WP.has hE (zK 5 rfl (zB rfl bq (by simp;omega) ?_)))
   refine zk 3 rfl (WP.block (zK 4 rfl (zb rfl (by exact bP (aV (by omega) (by omega))) ?_)))
   refine zb rfl (Yq (by omega)) ?_
   refine zk 3 rfl ?_
   generalize hm:(lo+hi)/2=m
   have xx:lo≤m:=by omega
   have MW:m<hi:=by omega
   obtain⟨st,J⟩:∃st,μ.br[m]?=some st:=⟨_,bn (by omega)⟩
   have Qf:=I.low st (bu J)
   have hlen:=I.len
   have hc:(gU μ.br)[m]?=some (.int .i64 (st:Int)):=by simp[gU,J]
   obtain⟨id,off,e1,e2⟩:=iX (P:=Tryz.prog) s (k:=2) rfl hc eC jt
   refine WP.drawn [af,af,af,af,af,af,af,af,af,af,af,af,af,af,af] rfl (by kernel_rfl) (by kernel_rfl) ?_
   refine zM rfl (zN rfl (zF rfl (gQ _ _) (zL rfl (s.ld (k:=0) rfl fA rfl) (zM rfl (zN rfl (zF rfl (iW _ _) (zL rfl (s.ld (k:=0) rfl ng rfl) (zM rfl (zO rfl (dD (r:=.ptr id off) rfl rfl e1) (zL rfl (e2 _ dy) (au.op rfl rfl rfl (by simp only[isEff,cD]) (cj rfl (by exact js bK cD (fe (by omega) (by omega)))) ?_)))))))))))
   refine zO rfl (aJ rfl rfl (by exact bP (fe (by omega) (by omega)))) ?_
   refine zM rfl ?_
   by_cases uf:μ.base+st<n
   ·skip
    refine au.oc rfl rfl rfl rfl (aJ rfl rfl bq) (by simp;omega) ?_
    refine au.nil ⟨⟨aa,aa,aa,aa,aa,aa,aa,aa,aa,aa,aa,aa,aa,aa,aa,aa⟩,?_⟩
    refine zK 3 rfl (zb rfl (by exact bP (aV (by omega) (by omega))) ?_)
    refine za rfl (zv ?_)
    refine ih (m+1) hi _ Q (by omega) (by omega) h2 (fun j s hj hs => ?_) h4 ⟨rfl,rfl,rfl,rfl,aa⟩ hq
    by_cases U:j=m
    ·subst U;rw[J] at hs;injection hs with hs;omega
    ·have:=D4 I.wL (show j<m by omega) hs J;omega
   ·skip
    refine au.mN rfl rfl rfl rfl (aJ rfl rfl bq) (by simp;omega) ?_
    refine au.nil ⟨⟨aa,aa,aa,aa,aa,aa,aa,aa,aa,aa,aa,aa,aa,aa,aa,aa⟩,?_⟩
    refine zj rfl (zr rfl (zk 2 rfl (zv ?_)))
    refine ih lo m _ Q (by omega) xx (by omega) h3 (fun j s hj hs => ?_) ⟨rfl,rfl,rfl,rfl,aa⟩ hq
    by_cases U:j=m
    ·subst U;rw[J] at hs;injection hs with hs;omega
    ·have:=D4 I.wL (show m<j by omega) J hs;omega
  ·skip
   refine WP.loop (WP.has hE (zK 5 rfl (zC rfl bq (by simp;omega) ?_)))
   refine zk 2 rfl (WP.exit ?_)
   have e:lo=hi:=by omega
   exact hq _ lo ⟨by omega,h3,by rw[e];exact h4⟩ rfl
theorem D5 (U:W told)(s:Sat h (bh q p μ::S))(I:μ.Ok)(hn:n<18446744073709551616): Call ⟨Tryz.prog,told⟩ 184 [.ptr q 0,.int .u64 (n:Int)] h fun v h'=>h'=h∧∃i,Split μ n i∧v=.int .i64 (i:Int):=by
 obtain⟨bv,sv,s⟩:=dw.1 s
 refine Call.of_wp (U.free _ rfl) Tryz.func184 rfl rfl (zK 5 rfl (WP.drawn [af,af,af,af,af,af,af] rfl (by kernel_rfl) (by kernel_rfl) ?_))
 refine zM rfl (zN rfl (zF rfl (iW _ _) (zL rfl (s.ld (k:=0) rfl ng rfl) (zO rfl (aY rfl rfl rfl (s.iG (n:=μ.br.length) (j:=2) rfl (by rw[j_,e_]) (by decide) eC)) ?_))))
 refine zA rfl (zA rfl ?_)
 refine au.nil ⟨⟨aa,aa,aa,aa,aa,aa,aa,aa⟩,?_⟩
 refine zw (WP.block ?_)
 refine NS hn I s μ.br.length 0 μ.br.length _ _ (by omega) (by omega) (by omega) (fun j s hj _=>by omega) (fun j s hj hs => ?_) ⟨rfl,rfl,rfl,rfl,aa⟩ (fun E' i hi J => ?_)
 ·rw[List.getElem?_eq_none (by omega)] at hs;cases hs
 ·skip
  exact WP.has (F:=[(5,.int .i64 (i:Int))]) ⟨J,aa⟩ (zK 5 rfl (WP.ret ⟨aa,_,rfl,rfl,i,hi,rfl⟩))
def Lg.hasB (μ:Lg)(n:Nat): Bool:=μ.br.any fun s=>decide (μ.base+s=n)
theorem Split.has (hs:Split μ n i)(hr:μ.br.Pairwise (· < ·)): μ.hasB n=true↔∃s,μ.br[i]?=some s∧μ.base+s=n:=by
 rw[Lg.hasB,sU]
 constructor
 ·rintro⟨s,U,I⟩
  have I:μ.base+s=n:=by simpa using I
  obtain⟨j,J⟩:=yZ U
  have sy:i≤j:=by
   rcases Nat.lt_or_ge j i with h|h
   ·have:=hs.2.1 j s h J;omega
   ·exact h
  by_cases he:i=j
  ·subst he;exact⟨s,J,I⟩
  ·have hjl:=(List.getElem?_eq_some_iff.1 J).1
   have hi:μ.br[i]?=some (μ.br[i]'(by omega)):=bn _
   have h3:=hs.2.2 i _ (aP _) hi
   have h4:=D4 hr (show i<j by omega) hi J
   omega
 ·rintro⟨s,U,I⟩
  exact⟨s,bu U,by simpa using I⟩
theorem ux {st:Nat}(I:μ.br[i]?=some st): (gU μ.br)[i]?=some (.int .i64 (st:Int)):=by simp[gU,I]
theorem Aq (hT:W told)(s:Sat h (bh q p μ::S))(I:μ.Ok)(hn:n<18446744073709551616): Call ⟨Tryz.prog,told⟩ 129 [.ptr q 0,.int .u64 (n:Int)] h fun v h'=>h'=h∧v=.bool (μ.hasB n):=by
 have s0:=s
 obtain⟨bv,sv,s⟩:=dw.1 s
 have sP:=I.many
 have wM:=I.size
 refine Call.of_wp (hT.free _ rfl) Tryz.func129 rfl rfl (zK 8 rfl (zc rfl (D5 hT s0 I hn) ?_))
 rintro v h' ⟨rfl,i,hi,rfl⟩
 have hh:=hi.has I.wL
 refine zk 3 rfl (WP.drawn [af,af,af,af,af,af,af,af,af,af,af,af,af,af,af,af,af,af,af,af,af,af,af,af,af] rfl (by kernel_rfl) (by kernel_rfl) ?_)
 refine zM rfl (zM rfl (zN rfl (zF rfl (iW _ _) (zL rfl (s.ld (k:=0) rfl ng rfl) (zO rfl (aY rfl rfl rfl (s.iG (n:=μ.br.length) (j:=2) rfl (by rw[j_,e_]) (by decide) eC)) ?_)))))
 by_cases EJ:i<μ.br.length
 ·skip
  refine au.oc rfl rfl rfl rfl (aJ rfl rfl bq) (by simp;omega) ?_
  obtain⟨st,J⟩:∃st,μ.br[i]?=some st:=⟨_,bn EJ⟩
  have Qf:=I.low st (bu J)
  obtain⟨id,off,e1,e2⟩:=iX (P:=Tryz.prog) s (k:=2) rfl (ux J) eC jt
  refine zM rfl (zM rfl (zN rfl (zF rfl (gQ _ _) (zL rfl (s.ld (k:=0) rfl fA rfl) (zM rfl (zN rfl (zF rfl (iW _ _) (zL rfl (s.ld (k:=0) rfl ng rfl) (zM rfl (zO rfl (dD (r:=.ptr id off) rfl rfl e1) (zL rfl (e2 _ dy) (au.op rfl rfl rfl (by simp only[isEff,cD]) (cj rfl (by exact js bK cD (fe (by omega) (by omega)))) ?_))))))))))))
  refine zO rfl (aJ rfl rfl (by exact bP (fe (by omega) (by omega)))) ?_
  refine zM rfl ?_
  by_cases he:μ.base+st=n
  ·skip
   refine au.oc rfl rfl rfl rfl (aJ rfl rfl bZ) (by simp;omega) ?_
   refine zO rfl (jf rfl rfl) (zA rfl ?_)
   refine au.nil ⟨⟨aa,aa,aa,aa,aa,aa,aa,aa,aa,aa,aa,aa,aa,aa,aa,aa,aa,aa,aa,aa,aa,aa,aa,aa,aa,aa⟩,?_⟩
   refine WP.ret ⟨aa,_,rfl,?_⟩
   exact⟨rfl,by rw[hh.2 ⟨st,J,he⟩]⟩
  ·skip
   refine au.mN rfl rfl rfl rfl (aJ rfl rfl bZ) (by simp;omega) ?_
   refine zO rfl (jf rfl rfl) (zA rfl ?_)
   refine au.nil ⟨⟨aa,aa,aa,aa,aa,aa,aa,aa,aa,aa,aa,aa,aa,aa,aa,aa,aa,aa,aa,aa,aa,aa,aa,aa,aa,aa⟩,?_⟩
   refine WP.ret ⟨aa,_,rfl,?_⟩
   refine⟨rfl,?_⟩
   cases hb:μ.hasB n with
   |false=>rfl
   |true =>
    obtain⟨s',U,h2⟩:=hh.1 hb
    rw[J] at U;have:=cA U;omega
 ·skip
  refine au.mN rfl rfl rfl rfl (aJ rfl rfl bq) (by simp;omega) ?_
  refine zM rfl (au.no (e:=false) rfl rfl rfl rfl (au.no (e:=false) rfl rfl rfl rfl (au.no (e:=false) rfl rfl rfl rfl (au.no (e:=false) rfl rfl rfl rfl (au.no (e:=false) rfl rfl rfl rfl (au.no (e:=false) rfl rfl rfl rfl (au.no (e:=false) rfl rfl rfl rfl (au.no (e:=false) rfl rfl rfl rfl (au.no (e:=false) rfl rfl rfl rfl (au.no (e:=false) rfl rfl rfl rfl (au.no (e:=false) rfl rfl rfl rfl (au.no (e:=false) rfl rfl rfl (by simp only[isEff,cD]) ?_))))))))))))
  refine au.no (e:=false) rfl rfl rfl rfl (au.no (e:=false) rfl rfl rfl rfl (au.no (e:=false) rfl rfl rfl rfl (zO rfl (ko rfl rfl) (zA rfl ?_))))
  refine au.nil ⟨⟨aa,aa,aa,aa,aa,aa,aa,aa,aa,aa,aa,aa,aa,aa,aa,aa,aa,aa,aa,aa,aa,aa,aa,aa,aa,aa⟩,?_⟩
  refine WP.ret ⟨aa,_,rfl,?_⟩
  refine⟨rfl,?_⟩
  cases hb:μ.hasB n with
  |false=>rfl
  |true =>
   obtain⟨s',U,h2⟩:=hh.1 hb
   have:=(List.getElem?_eq_some_iff.1 U).1
   omega
theorem NT (hT:W told)(s:Sat h (bh q p μ::S))(I:μ.Ok)(hn:n<18446744073709551616): Call ⟨Tryz.prog,told⟩ 113 [.ptr q 0,.int .u64 (n:Int)] h fun v h'=>h'=h∧∃r:Nat,v=.int .u64 (r:Int) ∧
  ((r=μ.base+μ.b.length∧μ.base+μ.b.length≤n)∨(μ.hasB r=true∧r≤n)∨r=μ.base)∧(μ.hasB n=true→n<μ.base+μ.b.length→r=n):=by
 have s0:=s
 obtain⟨bv,sv,s⟩:=dw.1 s
 have sP:=I.many
 have wM:=I.size
 refine Call.of_wp (hT.free _ rfl) Tryz.func113 rfl rfl (zK 8 rfl (zc rfl (D5 hT s0 I hn) ?_))
 rintro v h' ⟨rfl,i,hi,rfl⟩
 have hh:=hi.has I.wL
 refine zk 3 rfl (WP.block (zK 4 rfl (zc rfl (nZ hT s0 I.size) ?_)))
 rintro v h' ⟨rfl,rfl⟩
 by_cases Bi:μ.base+μ.b.length≤n
 ·skip
  refine zB rfl kK (by simp;omega) ?_
  refine zk 6 rfl (zc rfl (nZ hT s0 I.size) ?_)
  rintro v h' ⟨rfl,rfl⟩
  exact zk 2 rfl (WP.ret ⟨aa,_,rfl,rfl,μ.base+μ.b.length,rfl,.inl ⟨rfl,Bi⟩,fun _ hn=>absurd hn (by omega)⟩)
 ·skip
  refine zC rfl kK (by simp;omega) ?_
  refine zk 4 rfl (WP.drawn [af,af,af,af,af,af,af,af,af,af,af,af,af,af,af,af,af,af,af,af,af,af,af,af,af] rfl (by kernel_rfl) (by kernel_rfl) ?_)
  refine zM rfl (zM rfl (zN rfl (zF rfl (iW _ _) (zL rfl (s.ld (k:=0) rfl ng rfl) (zO rfl (aY rfl rfl rfl (s.iG (n:=μ.br.length) (j:=2) rfl (by rw[j_,e_]) (by decide) eC)) ?_)))))
  by_cases EJ:i<μ.br.length
  ·skip
   refine au.oc rfl rfl rfl rfl (aJ rfl rfl bq) (by simp;omega) ?_
   obtain⟨st,fM⟩:∃st,μ.br[i]?=some st:=⟨_,bn EJ⟩
   have Qf:=I.low st (bu fM)
   obtain⟨id,off,e1,e2⟩:=iX (P:=Tryz.prog) s (k:=2) rfl (ux fM) eC jt
   refine zM rfl (zM rfl (zN rfl (zF rfl (gQ _ _) (zL rfl (s.ld (k:=0) rfl fA rfl) (zM rfl (zN rfl (zF rfl (iW _ _) (zL rfl (s.ld (k:=0) rfl ng rfl) (zM rfl (zO rfl (dD (r:=.ptr id off) rfl rfl e1) (zL rfl (e2 _ dy) (au.op rfl rfl rfl (by simp only[isEff,cD]) (cj rfl (by exact js bK cD (fe (by omega) (by omega)))) ?_))))))))))))
   refine zO rfl (aJ rfl rfl (by exact bP (fe (by omega) (by omega)))) ?_
   refine zM rfl ?_
   by_cases he:μ.base+st=n
   ·skip
    refine au.oc rfl rfl rfl rfl (aJ rfl rfl bZ) (by simp;omega) ?_
    refine zO rfl (jf rfl rfl) (zA rfl ?_)
    refine au.nil ⟨⟨aa,aa,aa,aa,aa,aa,aa,aa,aa,aa,aa,aa,aa,aa,aa,aa,aa,aa,aa,aa,aa,aa,aa,aa,aa,aa⟩,?_⟩
    exact zK 6 rfl (WP.ret ⟨aa,_,rfl,rfl,n,rfl,.inr (.inl ⟨hh.2 ⟨st,fM,he⟩,aP _⟩),fun _ _=>rfl⟩)
   ·skip
    refine au.mN rfl rfl rfl rfl (aJ rfl rfl bZ) (by simp;omega) ?_
    refine zO rfl (jf rfl rfl) (zA rfl ?_)
    refine au.nil ⟨⟨aa,aa,aa,aa,aa,aa,aa,aa,aa,aa,aa,aa,aa,aa,aa,aa,aa,aa,aa,aa,aa,aa,aa,aa,aa,aa⟩,?_⟩
    refine zK 4 rfl ?_
    have Wg:¬μ.hasB n=true:=fun U=>by
     obtain⟨s',h1,h2⟩:=hh.1 U
     rw[fM] at h1;have:=cA h1;omega
    by_cases NU:i=0
    ·skip
     refine zB rfl bZ (by simp;omega) ?_
     exact zk 7 rfl (zY s 0 gQ fA rfl (zk 2 rfl (WP.ret ⟨aa,_,rfl,rfl,μ.base,rfl,.inr (.inr rfl),fun U _=>absurd U (Wg)⟩)))
    ·skip
     refine zC rfl bZ (by simp;omega) ?_
     refine za rfl (zv (zj rfl (WP.skip (zw ?_))))
     obtain⟨s2,J⟩:∃st,μ.br[i-1]?=some st:=⟨_,bn (by omega)⟩
     have Wh:=I.low s2 (bu J)
     obtain⟨id,off,e1,e2⟩:=iX (P:=Tryz.prog) s (k:=2) rfl (ux J) eC jt
     rw[show((i-1:Nat):Int)=(i:Int)-1 by omega] at e1
     refine WP.drawn [af,af,af,af,af,af,af,af,af,af,af,af,af,af,af] rfl (by kernel_rfl) (by kernel_rfl) ?_
     refine zM rfl (zN rfl (zF rfl (gQ _ _) (zL rfl (s.ld (k:=0) rfl fA rfl) (zM rfl (zN rfl (zF rfl (iW _ _) (zL rfl (s.ld (k:=0) rfl ng rfl) (zM rfl (zO rfl (aJ rfl rfl (by exact jV (aV (by omega) (by omega)))) ?_)))))))))
     refine zO rfl (dD (r:=.ptr id off) rfl rfl e1) (zL rfl (e2 _ dy) (au.op rfl rfl rfl (by simp only[isEff,cD]) (cj rfl (by exact js bK cD (fe (by omega) (by omega)))) ?_))
     refine zO rfl (aJ rfl rfl (by exact bP (fe (by omega) (by omega)))) ?_
     refine zA rfl ?_
     refine au.nil ⟨⟨aa,aa,aa,aa,aa,aa,aa,aa,aa,aa,aa,aa,aa,aa,aa,aa⟩,?_⟩
     refine WP.ret ⟨aa,_,rfl,?_⟩
     have b8:=hi.2.1 (i-1) s2 (by omega) J
     refine⟨rfl,μ.base+s2,rfl,.inr (.inl ⟨?_,by omega⟩),fun U _=>absurd U Wg⟩
     rw[Lg.hasB,sU]
     exact⟨s2,bu J,by simp⟩
  ·skip
   refine au.mN rfl rfl rfl rfl (aJ rfl rfl bq) (by simp;omega) ?_
   refine zM rfl (au.no (e:=false) rfl rfl rfl rfl (au.no (e:=false) rfl rfl rfl rfl (au.no (e:=false) rfl rfl rfl rfl (au.no (e:=false) rfl rfl rfl rfl (au.no (e:=false) rfl rfl rfl rfl (au.no (e:=false) rfl rfl rfl rfl (au.no (e:=false) rfl rfl rfl rfl (au.no (e:=false) rfl rfl rfl rfl (au.no (e:=false) rfl rfl rfl rfl (au.no (e:=false) rfl rfl rfl rfl (au.no (e:=false) rfl rfl rfl rfl (au.no (e:=false) rfl rfl rfl (by simp only[isEff,cD]) ?_))))))))))))
   refine au.no (e:=false) rfl rfl rfl rfl (au.no (e:=false) rfl rfl rfl rfl (au.no (e:=false) rfl rfl rfl rfl (zO rfl (ko rfl rfl) (zA rfl ?_))))
   refine au.nil ⟨⟨aa,aa,aa,aa,aa,aa,aa,aa,aa,aa,aa,aa,aa,aa,aa,aa,aa,aa,aa,aa,aa,aa,aa,aa,aa,aa⟩,?_⟩
   refine zK 4 rfl ?_
   have Wi:¬μ.hasB n=true:=fun U=>by
    obtain⟨s',h1,h2⟩:=hh.1 U
    have:=(List.getElem?_eq_some_iff.1 h1).1
    omega
   by_cases NU:i=0
   ·skip
    refine zB rfl bZ (by simp;omega) ?_
    exact zk 7 rfl (zY s 0 gQ fA rfl (zk 2 rfl (WP.ret ⟨aa,_,rfl,rfl,μ.base,rfl,.inr (.inr rfl),fun U _=>absurd U (Wi)⟩)))
   ·skip
    refine zC rfl bZ (by simp;omega) ?_
    refine za rfl (zv (zj rfl (WP.skip (zw ?_))))
    have kI:=hi.1
    obtain⟨s2,J⟩:∃st,μ.br[i-1]?=some st:=⟨_,bn (by omega)⟩
    have Wh:=I.low s2 (bu J)
    obtain⟨id,off,e1,e2⟩:=iX (P:=Tryz.prog) s (k:=2) rfl (ux J) eC jt
    rw[show((i-1:Nat):Int)=(i:Int)-1 by omega] at e1
    refine WP.drawn [af,af,af,af,af,af,af,af,af,af,af,af,af,af,af] rfl (by kernel_rfl) (by kernel_rfl) ?_
    refine zM rfl (zN rfl (zF rfl (gQ _ _) (zL rfl (s.ld (k:=0) rfl fA rfl) (zM rfl (zN rfl (zF rfl (iW _ _) (zL rfl (s.ld (k:=0) rfl ng rfl) (zM rfl (zO rfl (aJ rfl rfl (by exact jV (aV (by omega) (by omega)))) ?_)))))))))
    refine zO rfl (dD (r:=.ptr id off) rfl rfl e1) (zL rfl (e2 _ dy) (au.op rfl rfl rfl (by simp only[isEff,cD]) (cj rfl (by exact js bK cD (fe (by omega) (by omega)))) ?_))
    refine zO rfl (aJ rfl rfl (by exact bP (fe (by omega) (by omega)))) ?_
    refine zA rfl ?_
    refine au.nil ⟨⟨aa,aa,aa,aa,aa,aa,aa,aa,aa,aa,aa,aa,aa,aa,aa,aa⟩,?_⟩
    refine WP.ret ⟨aa,_,rfl,?_⟩
    have b8:=hi.2.1 (i-1) s2 (by omega) J
    refine⟨rfl,μ.base+s2,rfl,.inr (.inl ⟨?_,by omega⟩),fun U _=>absurd U Wi⟩
    rw[Lg.hasB,sU]
    exact⟨s2,bu J,by simp⟩
def eo (base check:Nat): List Nat:=le 8 base++le 8 check
theorem mA (a b:Nat): (eo a b).length=16:=by simp[eo,dX]
theorem CF (I:W told){b:Nat}(s:Sat h S): Call ⟨Tryz.prog,told⟩ 183 [.ptr q 0,.int .u64 (a:Int),.int .u64 (b:Int)] h fun v h'=>Sat h' (bH v (eo a b)::S):=by
 refine Call.of_wp (I.free _ rfl) Tryz.func183 rfl rfl (zK 7 rfl (zc rfl (vM I s.yl (by decide) (by simp)) ?_))
 intro v h s
 refine zm rfl (zc rfl (vM I s (by decide) (by simp[dX])) ?_)
 intro v h s
 exact zk 2 rfl (WP.ret ⟨aa,_,rfl,s⟩)
theorem NV (U:W told)(s:Sat h (bh q p μ::aD p δ::S))(I:μ.Ok)(hf:δ.aA<4294967296): Call ⟨Tryz.prog,told⟩ 93 [.ptr q 0,.int .u64 (n:Int)] h fun v h' =>
  (n<μ.base+μ.forced∧v=.int .i64 0∧Sat h' (bh q p μ::aD p δ::S)) ∨
  (μ.base+μ.forced≤n∧δ.dead=true∧v=.int .i64 9∧Sat h' (bh q p μ::aD p δ::S)) ∨
  (μ.base+μ.forced≤n∧δ.dead=false∧δ.aA=0∧v=.int .i64 9∧Sat h' (bh q p μ::aD p δ.die::S)) ∨
  (μ.base+μ.forced≤n∧δ.dead=false∧δ.aA≠0∧v=.int .i64 0∧Sat h' (bh q p { μ with forced:=μ.b.length }::aD p { δ.cQ with aH:=δ.log.length }::S)):=by
 have wM:=I.size
 have xA:=I.forced
 have s0:=s
 obtain⟨bv,sv,s⟩:=dw.1 s
 refine Call.of_wp (U.free _ rfl) Tryz.func93 rfl rfl (zK 9 rfl (zc rfl (qn U s0 I.size I.forced) ?_))
 rintro v h' ⟨rfl,rfl⟩
 by_cases b8:n<μ.base+μ.forced
 ·skip
  refine zB rfl bq (by simp;omega) ?_
  exact zk 6 rfl (WP.ret ⟨aa,_,rfl,.inl ⟨b8,rfl,s0⟩⟩)
 ·have hle:μ.base+μ.forced≤n:=by omega
  refine zC rfl bq (by simp;omega) ?_
  refine zk 8 rfl (zY s 0 pJ jK rfl (zc rfl (EX U (s0.ae [1]) hf) ?_))
  rintro v h (⟨J,rfl,s⟩|⟨J,h0,rfl,s⟩|⟨J,h0,rfl,s⟩)
  ·refine ay.op rfl rfl rfl (fy rfl) ?_
   exact zk 4 rfl (zB rfl aX (rfl) (zk 7 rfl (WP.ret ⟨aa,_,rfl,.inr (.inl ⟨hle,J,rfl,s.ae [1]⟩)⟩)))
  ·skip
   exact zk 5 rfl (zB rfl aX (rfl) (zk 7 rfl (WP.ret ⟨aa,_,rfl,.inr (.inr (.inl ⟨hle,J,h0,rfl,s.ae [1]⟩))⟩)))
  ·skip
   obtain⟨bv,sv,s⟩:=dw.1 (s.ae [1])
   refine zk 5 rfl (zC rfl aX (rfl) (zk 8 rfl (zY s 0 eH bL rfl (zo rfl (aY rfl rfl rfl (bk aW (s.aL (k:=1) rfl (bJ _ _)))) (zn rfl (zf rfl (pK _ _) ?_))))))
   refine zS rfl (by exact s.dV (k:=0) rfl jt rfl (by decide) rfl rfl) (fun h s => ?_)
   exact zk 5 rfl (WP.ret ⟨aa,_,rfl,.inr (.inr (.inr ⟨hle,J,h0,rfl,dw.2 ⟨bv,sv,s⟩⟩))⟩)
theorem NY (U:W told)(s:Sat h (bh q p μ::aD p δ::S))(I:μ.Ok)(hf:δ.aA<4294967296)(hn:n<18446744073709551616): Call ⟨Tryz.prog,told⟩ 112 [.ptr q 0,.int .u64 (n:Int)] h fun v h' =>
  (¬(μ.hasB n=true∧n<μ.base+μ.forced)∧v=.int .i64 1∧Sat h' (bh q p μ::aD p δ::S)) ∨
  (μ.hasB n=true∧n<μ.base+μ.forced∧δ.dead=true∧v=.int .i64 9∧Sat h' (bh q p μ::aD p δ::S)) ∨
  (μ.hasB n=true∧n<μ.base+μ.forced∧δ.dead=false∧δ.aA=0∧v=.int .i64 9∧Sat h' (bh q p μ::aD p δ.die::S)) ∨
  (μ.hasB n=true∧n<μ.base+μ.forced∧δ.dead=false∧δ.aA≠0∧v=.int .i64 0∧Sat h' (bh q p { μ with check:=n }::aD p { δ.cQ with mark:=eo μ.base n }::S)):=by
 have wM:=I.size
 have xA:=I.forced
 have s0:=s
 refine Call.of_wp (U.free _ rfl) Tryz.func112 rfl rfl (zK 9 rfl (zc rfl (Aq U s0 I hn) ?_))
 rintro v h' ⟨rfl,rfl⟩
 cases hh:μ.hasB n with
 |false =>
  exact zo rfl (dQ rfl rfl) (zk 12 rfl (WP.ret ⟨aa,_,rfl,.inl ⟨fun e=>by simp at e,rfl,s0⟩⟩))
 |true =>
  refine zo rfl (dQ rfl rfl) (zk 3 rfl (zc rfl (qn U s0 I.size I.forced) ?_))
  rintro v h' ⟨rfl,rfl⟩
  by_cases J:n<μ.base+μ.forced
  ·skip
   refine zC rfl kK (by simp;omega) ?_
   refine zk 6 rfl ?_
   obtain⟨bv,sv,s⟩:=dw.1 s
   have s1:=s
   refine WP.drawn [some (0,2),some (0,2),some (0,2),some (0,2),af,af,af,af,af,af,af,af,af] rfl (by kernel_rfl) (by kernel_rfl) ?_
   refine zM rfl (zN rfl (zF rfl (pJ _ _) (zL rfl (s.ld (k:=0) rfl jK rfl) (zM rfl (zM rfl (zN rfl (zF rfl (gQ _ _) (zL rfl (s.ld (k:=0) rfl fA rfl) (zM rfl (au.any rfl rfl rfl rfl (OpR.call rfl rfl rfl rfl (CF (q:=q) (a:=μ.base) (b:=n) U s)) ?_))))))))))
   intro mv h s
   have s:=s.ae [1,1,1,1,0]
   have s2:=s
   refine au.any rfl rfl rfl rfl (OpR.call rfl rfl rfl rfl (Qm U (s.ae [3,3]) (bJ _ _) hf)) ?_
   rintro v h hr
   rw[mA] at hr
   rcases hr with(⟨hd,rfl,s⟩|⟨_,hl,_,_⟩|⟨hd,_,h0,rfl,s⟩|⟨hd,_,h0,rfl,s⟩)
   ·have s:=(s.del 1).ae [1,1,1,0]
    refine zA rfl ?_
    refine au.nil ⟨⟨fun _ _=>.inr ⟨rfl,⟨_,bj rfl⟩,aU _ rfl⟩,fun _ _=>.inr ⟨rfl,⟨_,jU rfl⟩,aU _ rfl⟩,fun _ _=>.inr ⟨rfl,⟨_,jg rfl (pJ _ _)⟩,aU _ rfl⟩,dR (.inr ⟨rfl,⟨_,aT rfl (s1.ld (k:=0) rfl jK rfl)⟩,aU _ rfl⟩) (.inr ⟨rfl,⟨_,aT rfl (s2.ld (k:=0) rfl jK rfl)⟩,aU _ rfl⟩),aa,aa,aa,aa,aa,aa,aa,aa,aa,aa⟩,?_⟩
    exact zK 3 rfl (zB rfl aX (rfl) (zk 7 rfl (WP.ret ⟨aa,_,rfl,.inr (.inl ⟨rfl,J,hd,rfl,dw.2 ⟨bv,sv,s⟩⟩)⟩)))
   ·omega
   ·have s:=(s.del 1).ae [1,1,1,0]
    refine zA rfl ?_
    refine au.nil ⟨⟨fun _ _=>.inr ⟨rfl,⟨_,bj rfl⟩,aU _ rfl⟩,fun _ _=>.inr ⟨rfl,⟨_,jU rfl⟩,aU _ rfl⟩,fun _ _=>.inr ⟨rfl,⟨_,jg rfl (pJ _ _)⟩,aU _ rfl⟩,dR (.inr ⟨rfl,⟨_,aT rfl (s1.ld (k:=0) rfl jK rfl)⟩,aU _ rfl⟩) (.inr ⟨rfl,⟨_,aT rfl (s2.ld (k:=0) rfl jK rfl)⟩,aU _ rfl⟩),aa,aa,aa,aa,aa,aa,aa,aa,aa,aa⟩,?_⟩
    exact zK 3 rfl (zB rfl aX (rfl) (zk 7 rfl (WP.ret ⟨aa,_,rfl,.inr (.inr (.inl ⟨rfl,J,hd,h0,rfl,dw.2 ⟨bv,sv,s⟩⟩))⟩)))
   ·have s:=(s.del 1).ae [1,1,1,0]
    refine zA rfl ?_
    refine au.nil ⟨⟨fun _ _=>.inr ⟨rfl,⟨_,bj rfl⟩,aU _ rfl⟩,fun _ _=>.inr ⟨rfl,⟨_,jU rfl⟩,aU _ rfl⟩,fun _ _=>.inr ⟨rfl,⟨_,jg rfl (pJ _ _)⟩,aU _ rfl⟩,dR (.inr ⟨rfl,⟨_,aT rfl (s1.ld (k:=0) rfl jK rfl)⟩,aU _ rfl⟩) (.inr ⟨rfl,⟨_,aT rfl (s2.ld (k:=0) rfl jK rfl)⟩,aU _ rfl⟩),aa,aa,aa,aa,aa,aa,aa,aa,aa,aa⟩,?_⟩
    refine zK 3 rfl (zC rfl aX (rfl) (zk 8 rfl (zf rfl (pL _ _) ?_)))
    refine zS rfl (by exact s.dV (k:=0) rfl ot rfl (by decide) rfl rfl) (fun h s => ?_)
    exact zk 5 rfl (WP.ret ⟨aa,_,rfl,.inr (.inr (.inr ⟨rfl,J,hd,h0,rfl,dw.2 ⟨bv,sv,s⟩⟩))⟩)
  ·skip
   refine zB rfl kK (by simp;omega) ?_
   exact zk 7 rfl (WP.ret ⟨aa,_,rfl,.inl ⟨fun e=>J e.2,rfl,s0⟩⟩)
end
structure ct where
 aO:Int
 pos:Int
 whole:Bool
 b:List Nat
def ct.Ok (c:ct): Prop:=0≤c.aO∧c.aO<65536∧0≤c.pos∧c.pos≤512∧(c.b.length:Int)≤512-c.pos∧(c.whole=true→c.pos=0∧c.b.length=512)
instance (c:ct):Decidable c.Ok:=by unfold ct.Ok;infer_instance
def dY (kind:Int)(aR:List ct): Bool:=decide (1≤kind∧kind≤9)&&aR.all fun c=>decide c.Ok
def iH (kd:Int)(tx pv nx:Nat)(dt ch:V): List V:=[.int .i64 kd,.int .u64 (tx:Int),.int .u64 (pv:Int),.int .u64 (nx:Int),dt,ch]
theorem mO {kd:Int}{ch:V}(I:storable dt=true)(J:storable ch=true): (iH kd tx pv nx dt ch).all storable=true:=by
 simp only[iH,jB,jC,I,J]
 rfl
def cZ : List V→List ct→aS
 |[],[]=>.pu True
 |p::a::w::v::l,x::m=>.an (.an (.pu (p=.int .i64 x.aO∧a=.int .i64 x.pos∧w=.bool x.whole)) (.cm v x.b)) (cZ l m)
 |_,_=>.pu False
theorem aF.lD : ∀(m:List ct) (l:List V),aF (cZ l m):=by
 intro m
 induction m with
 |nil=>intro l;rcases l with _|⟨a,_|⟨b,_|⟨c,_|⟨d,l⟩⟩⟩⟩<;>exact aF.pu _
 |cons x m I=>intro l;rcases l with _|⟨a,_|⟨b,_|⟨c,_|⟨d,l⟩⟩⟩⟩<;>first|exact aF.pu _|exact aF.an (aF.an (aF.pu _) (aF.cm _ _)) (I l)
theorem oS {a b:PM}: ∀ {m:List ct} {l:List V},(cZ l m).p a b→l.length=m.length*4:=by
 intro m
 induction m with
 |nil=>intro l h;rcases l with _|⟨x,_|⟨y,_|⟨z,_|⟨d,l⟩⟩⟩⟩<;>first|rfl|exact h.elim
 |cons x m I =>
  intro l h
  rcases l with _|⟨x,_|⟨y,_|⟨z,_|⟨d,l⟩⟩⟩⟩<;>first|exact h.elim|skip
  have:=I h.2
  simp only[bI]
  omega
theorem wN {a b:PM}: ∀ {m m':List ct} {l I:List V},(cZ l m).p a b→(cZ I m').p a b→(cZ (l++I) (m++m')).p a b:=by
 intro m
 induction m with
 |nil=>intro m' l I h h';rcases l with _|⟨x,_|⟨y,_|⟨z,_|⟨d,l⟩⟩⟩⟩<;>first|exact h'|exact h.elim
 |cons x m J =>
  intro m' l I h h'
  rcases l with _|⟨x,_|⟨y,_|⟨z,_|⟨d,l⟩⟩⟩⟩<;>first|exact h.elim|exact⟨h.1,J h.2 h'⟩
theorem G8 {a b:PM}: ∀ {m:List ct} {l:List V} {i:Nat} {c:ct},(cZ l m).p a b→m[i]?=some c→∃u,(l.drop (i*4)).take 4=[.int .i64 c.aO,.int .i64 c.pos,.bool c.whole,u]∧(aS.cm u c.b).p a b:=by
 intro m
 induction m with
 |nil=>intro l i c h I;simp at I
 |cons x m J =>
  intro l i c h I
  rcases l with _|⟨p,_|⟨q,_|⟨w,_|⟨v,l⟩⟩⟩⟩<;>first|exact h.elim|skip
  obtain⟨⟨⟨U,h2,h3⟩,h4⟩,h5⟩:=h
  cases i with
  |zero=>simp at I;subst I;exact⟨v,by rw[U,h2,h3];rfl,h4⟩
  |succ i =>
   simp at I
   obtain⟨u,e1,e2⟩:=J h5 I
   refine⟨u,?_,e2⟩
   rw[←e1,show(i+1)*4=i*4+4 by omega]
   rfl
section
variable {told:dI} {p:Nat} {v:V}
theorem G9 {ch:V}{m:List ct}{c:ct}(s:Sat h (.arr 4 ch cs::cZ cs m::S))(U:m[i]?=some c):
  ∃id off u,indexAddrV Tryz.prog 102 ch (.int .i64 (i:Int))=some (.ptr id off)∧loadV Tryz.prog h 237 (.ptr id off)=some (.agg [.int .i64 c.aO,.int .i64 c.pos,.bool c.whole,u]) ∧
   u.cells=[u]∧storable u=true∧u.beq u=true∧Sat h (.cm u c.b::.arr 4 ch cs::cZ cs m::S):=by
 obtain⟨a,b,q1,q2,q3⟩:=s.at (k:=1) rfl
 have EJ:=(List.getElem?_eq_some_iff.1 U).1
 have hl:=oS q3
 obtain⟨u,e1,e2⟩:=G8 q3 U
 obtain⟨id,off,g1,J⟩:=GX (P:=Tryz.prog) (i:=i) s (j:=0) rfl (by omega) (by decide) iQ oL
 have J:=J FW
 rw[e1] at J
 have s2:Sat h (cZ cs m::.arr 4 ch cs::S):=s.ae [1]
 have s3:=(s2.dup (aF.lD _ _)).fR (B:=.cm u c.b) fun a b h=>by
  obtain⟨u',I,tR⟩:=G8 h U
  rw[e1] at I
  injection I with _ I
  injection I with _ I
  injection I with _ I
  injection I with I _
  subst I
  exact tR
 have hu:=(s3.aL (k:=0) rfl (cI _ _))
 exact⟨id,off,u,g1,J,hu.cells.1,hu.cells.2,dr hu,s3.ae [0,1,0]⟩
theorem Ko {ch:V}{m:List ct}(s:Sat h S)(I:getA S j1=some (.arr 4 ch cs))(J:getA S j2=some (cZ cs m))(hu:P.underlying t=some (.slice e)): lenV P h t ch=some (.int .i64 m.length):=by
 obtain⟨a,b,q1,q2,U⟩:=s.at J
 exact s.iG I (oS U) (by decide) hu
theorem Sat.vN {ch:V}{m:List ct}(s:Sat h S)(I:getA S j1=some (.arr 4 ch cs))(J:getA S j2=some (cZ cs m))(hu:P.underlying t=some (.slice e)): lenV P h t ch=some (.int .i64 m.length):=Ko s I J hu
noncomputable def ZE : Code:=cC [1,1,0,1,0,0] ((Tryz.f211.body).getD .skip)
theorem LY {ch:V}{m:List ct}: ∀(j i:Nat) (h:H) (E:List (Nat×V)) (Q:Ex→List (Nat×V)→H→Prop),i+j=m.length→m.length<4294967296→(∀c∈m,c.b.length<9223372036854775808) →
  (∀c∈m, -4294967296≤c.pos∧c.pos≤4294967296)→Sat h (.arr 4 ch cs::cZ cs m::S)→Has E [(1,.ptr p1 0),(14,ch),(15,.int .i64 m.length),(16,.int .i64 i)] →
  ((m.drop i).all (fun c=>decide c.Ok)=false→∀E' h',look E' 2=some (.bool false)→Sat h' (.arr 4 ch cs::cZ cs m::S)→Q .ret E' h') →
  ((m.drop i).all (fun c=>decide c.Ok)=true→∀E' h',Sat h' (.arr 4 ch cs::cZ cs m::S)→Q (.exit 0) E' h')→WP ⟨Tryz.prog,told⟩ 61 (.loop ZE) E h Q:=by
 intro j
 induction j with
 |zero =>
  intro i h E Q hi hm hb J s hE U hx
  refine WP.loop (WP.has hE (zg rfl (zC rfl bq (by simp;omega) ?_)))
  exact zk 3 rfl (WP.exit (hx (by rw[kL (by omega)];rfl) _ _ s))
 |succ j ih =>
  intro i h E Q hi hm hb J s hE U hx
  have hc:m[i]?=some (m[i]'(by omega)):=bn _
  generalize (m[i]'(by omega))=c at hc
  have NZ:=bu hc
  have ZF:=hb c NZ
  have hcp:=J c NZ
  have jo:m.drop i=c::m.drop (i+1):=by
   have:=List.getElem?_eq_some_iff.1 hc
   obtain⟨h1,rfl⟩:=this
   exact lJ h1
  rw[jo,jB] at U hx
  obtain⟨id,off,u,e1,e2,u1,u2,u3,s⟩:=G9 s hc
  refine WP.loop (WP.has hE (zg rfl (zB rfl bq (by simp;omega) ?_)))
  refine zk 5 rfl (WP.block (zg rfl (zo rfl (dD (r:=.ptr id off) rfl rfl e1) (zl rfl e2 ?_))))
  refine ay.cV s rfl rfl rfl (cK nV) (fun p4 h s => ?_)
  dsimp only[V.cells,List.length_cons,List.length_nil,Nat.reduceAdd] at s
  refine zS rfl (s.iq (j:=0) rfl oL rfl (by simp only[jB,jC,u2];rfl)) ?_
  intro h s
  dsimp only[setA] at s
  refine zk 4 rfl (zY s 0 nW dy rfl ?_)
  refine zd rfl (aJ rfl rfl bq) ?_ ?_
  ·intro vy
   have vy:c.aO<0:=by simp at vy;omega
   exact zk 30 rfl (WP.ret (U (by rw[eW (fun q:c.Ok=>by have:=q.1;omega),hG]) _ _ rfl s.drop.drop))
  ·intro vy
   have vy:¬ (c.aO<0):=by simp at vy;omega
   refine zm rfl (zY s 0 nW dy rfl ?_)
   refine zd rfl (aJ rfl rfl kK) ?_ ?_
   ·intro AO
    have AO:65536≤c.aO:=by simp at AO;omega
    exact zk 26 rfl (WP.ret (U (by rw[eW (fun q:c.Ok=>by have:=q.2.1;omega),hG]) _ _ rfl s.drop.drop))
   ·intro AO
    have AO:¬ (65536≤c.aO):=by simp at AO;omega
    refine zk 2 rfl (zY s 0 pP dy rfl ?_)
    refine zd rfl (aJ rfl rfl bq) ?_ ?_
    ·intro j8
     have j8:c.pos<0:=by simp at j8;omega
     exact zk 21 rfl (WP.ret (U (by rw[eW (fun q:c.Ok=>by have:=q.2.2.1;omega),hG]) _ _ rfl s.drop.drop))
    ·intro j8
     have j8:¬ (c.pos<0):=by simp at j8;omega
     refine zk 2 rfl (zY s 0 pP dy rfl ?_)
     refine zd rfl (aJ rfl rfl dS) ?_ ?_
     ·intro N0
      have N0:512<c.pos:=by simp at N0;omega
      exact zk 16 rfl (WP.ret (U (by rw[eW (fun q:c.Ok=>by have:=q.2.2.2.1;omega),hG]) _ _ rfl s.drop.drop))
     ·intro N0
      have N0:¬ (512<c.pos):=by simp at N0;omega
      refine zk 2 rfl (zY s 0 mY bL rfl (zo rfl (aY rfl rfl rfl (bk aW (s.aL (k:=1) rfl (cI _ _)))) (zY s 0 pP dy rfl (zb rfl (by exact jV (aV (by omega) (by omega))) ?_))))
      refine zd rfl (aJ rfl rfl dS) ?_ ?_
      ·intro N4
       have N4:512-c.pos<(c.b.length:Int):=by simp at N4;omega
       exact zk 7 rfl (WP.ret (U (by rw[eW (fun q:c.Ok=>by have:=q.2.2.2.2.1;omega),hG]) _ _ rfl s.drop.drop))
      ·intro N4
       have N4:¬ (512-c.pos<(c.b.length:Int)):=by simp at N4;omega
       refine zk 6 rfl (zf rfl (vK _ _) ?_)
       have sE:∀(h:H) (E:List (Nat×V)),c.Ok→Sat h (.arr 4 ch cs::cZ cs m::S)→Has E [(1,.ptr p1 0),(14,ch),(15,.int .i64 m.length),(16,.int .i64 ((i:Int)+1))]→WP ⟨Tryz.prog,told⟩ 61 (.loop ZE) E h Q:=by
        intro h E ke s hE
        rw[er ke,Bool.true_and] at U hx
        exact ih (i+1) h E Q (by omega) hm hb J s hE U hx
       have MV:c.whole=false∨c.whole=true:=by cases c.whole<;>simp
       rcases MV with hw|hw
       ·skip
        refine zh rfl (aT rfl (by exact s.ld (k:=0) rfl jQ rfl)) (hw) ?_
        refine zk 11 rfl (zv (zj rfl (WP.skip (zr rfl (zb rfl (by exact bP (aV (by omega) (by omega))) ?_)))))
        refine zm rfl (zv ?_)
        refine sE _ _ ?_ ?_ ?_
        ·exact⟨by omega,by omega,by omega,by omega,by omega,fun e=>by rw[hw] at e;cases e⟩
        ·exact s.drop.drop
        ·exact⟨rfl,rfl,rfl,rfl,aa⟩
       ·skip
        refine zt rfl (aT rfl (s.ld (k:=0) rfl jQ rfl)) (hw) (zm rfl (zY s 0 pP dy rfl ?_))
        refine zd rfl (aJ rfl rfl aX) ?_ ?_
        ·intro hp
         have hp:c.pos≠0:=by simp at hp;omega
         exact zk 13 rfl (WP.ret (U (by rw[eW (fun q:c.Ok=>hp (q.2.2.2.2.2 hw).1),hG]) _ _ rfl s.drop.drop))
        ·intro hp
         have hp:c.pos=0:=by simp at hp;omega
         refine zm rfl (zY s 0 mY bL rfl (zo rfl (aY rfl rfl rfl (bk aW (s.aL (k:=1) rfl (cI _ _)))) ?_))
         refine zd rfl (aJ rfl rfl aX) ?_ ?_
         ·intro I
          have I:c.b.length≠512:=by simp at I;omega
          exact zk 8 rfl (WP.ret (U (by rw[eW (fun q:c.Ok=>I (q.2.2.2.2.2 hw).2),hG]) _ _ rfl s.drop.drop))
         ·intro I
          have I:c.b.length=512:=by simp at I;omega
          refine zk 2 rfl (zv (zj rfl (WP.skip (zr rfl (zb rfl (by exact bP (aV (by omega) (by omega))) ?_)))))
          refine zm rfl (zv ?_)
          refine sE _ _ ?_ ?_ ?_
          ·exact⟨by omega,by omega,by omega,by omega,by omega,fun _=>⟨hp,I⟩⟩
          ·exact s.drop.drop
          ·exact⟨rfl,rfl,rfl,rfl,aa⟩
def vO (m:List ct): Prop:=m.length<4294967296∧(∀c∈m,c.b.length<4294967296)∧(∀c∈m, -4294967296≤c.pos∧c.pos≤4294967296)
theorem G_ (hT:W told){kd:Int}{ch:V}{m:List ct}(s:Sat h (.arr 4 ch cs::cZ cs m::S))(hd:storable dt=true)(hm:vO m):
  Call ⟨Tryz.prog,told⟩ 211 [.agg (iH kd tx pv nx dt ch)] h fun r h'=>r=.bool (dY kd m)∧Sat h' (.arr 4 ch cs::cZ cs m::S):=by
 have kg:=s.jW (j:=0) rfl
 have fM:=mO (kd:=kd) (tx:=tx) (pv:=pv) (nx:=nx) hd kg.2.1
 refine Call.of_wp (hT.free _ rfl) Tryz.func211 rfl rfl (zg rfl (ay.cV s rfl rfl rfl (gP rfl fM) ?_))
 intro p1 h s
 refine zk 5 rfl (zY s 0 qR dy rfl ?_)
 refine zd rfl (aJ rfl rfl bq) ?_ ?_
 ·intro J
  have J:kd<1:=by simpa using J
  exact zk 11 rfl (WP.ret ⟨aa,_,rfl,by rw[dY,eW (by omega),hG],s.drop⟩)
 ·intro J
  have J:1≤kd:=by simpa using J
  refine zm rfl (zY s 0 qR dy rfl ?_)
  refine zd rfl (aJ rfl rfl dS) ?_ ?_
  ·intro I
   have I:9<kd:=by simpa using I
   exact zk 7 rfl (WP.ret ⟨aa,_,rfl,by rw[dY,eW (by omega),hG],s.drop⟩)
  ·intro I
   have I:kd≤9:=by simpa using I
   refine zk 7 rfl (zY s 0 kP qg rfl (zo rfl (aY rfl rfl rfl (Ko s (j1:=1) (j2:=2) rfl rfl iQ)) (zk 2 rfl (WP.block ?_))))
   have hg:dY kd m=m.all (fun c=>decide c.Ok):=by rw[dY,er ⟨J,I⟩,Bool.true_and]
   refine LY m.length 0 _ _ _ (by omega) hm.1 (fun c hc=>by have:=hm.2.1 c hc;omega) hm.2.2 s.drop ⟨rfl,rfl,rfl,rfl,aa⟩ (fun U E' h' h2 s' => ?_) (fun U E' h' s' => ?_)
   ·rw[hg]
    rw[fY] at U
    rw[U]
    exact⟨aa,_,ny h2,rfl,s'⟩
   ·rw[hg]
    rw[fY] at U
    rw[U]
    exact WP.has (F:=[]) aa (zK 4 rfl (WP.ret ⟨aa,_,rfl,rfl,s'⟩))
end
def m_ (c:ct): List Nat:=digits 9 c.aO.toNat++digits 9 c.pos.toNat++[if c.whole then 1 else 0]++(digits 9 c.b.length++c.b)
def dF (kd:Int)(tx pv nx:Nat)(data:List Nat)(aR:List ct): List Nat :=
 [kd.toNat]++digits 9 tx++digits 9 pv++digits 9 nx++(digits 9 data.length++data)++digits 9 aR.length++aR.flatMap m_
section
variable {told:dI} {p:Nat} {v w:V} {m:List Nat}
theorem pT (I:W told)(s:Sat h (bH v l::S))(hn:n<18446744073709551616)(hl:l.length≤140737488355000):
  Call ⟨Tryz.prog,told⟩ 235 [v,.int .u64 (n:Int)] h fun r h'=>Sat h' (bH r (l++digits 9 n)::S) :=
 (EV I.SE (k:=9) s.wf (s.buf (k:=0) rfl) (by omega) (by omega) (by omega)).mono fun _ _ ⟨J,U,h3⟩=>s.Ad U J h3
theorem D6 (U:W told)(s:Sat h (bH v l::X::S))(I:cX X (dc w m))(hl:l.length+m.length≤140737488355000):
  Call ⟨Tryz.prog,told⟩ 236 [v,w] h fun r h'=>Sat h' (bH r (l++(digits 9 m.length++m))::X::S) :=
 (TS U.SE (k:=9) s.wf (s.buf (k:=0) rfl) (s.aL (k:=1) rfl I) (s.Wc I) (by omega) (by omega) (by omega)).mono fun _ _ ⟨J,h2,h3⟩=>by
  rw[cE] at J
  exact s.Ad h2 J h3
noncomputable def ZG : Code:=cC [1,1,1,1,0,1,0,0] ((Tryz.f212.body).getD .skip)
theorem N5 (hT:W told){ch:V}{aR:List ct}(ke:∀c∈aR,c.Ok)(J:vO aR): ∀(j i:Nat) (sv:V) (l:List Nat) (h:H) (E:List (Nat×V)) (Q:Ex→List (Nat×V)→H→Prop),i+j=aR.length →
  l.length+((aR.drop i).flatMap m_).length≤140737488355000 →
  Sat h (bH sv l::.arr 4 ch cs::cZ cs aR::S)→Has E [(1,.ptr p1 0),(3,sv),(37,ch),(38,.int .i64 aR.length),(39,.int .i64 i)] →
  (∀E' h' I,look E' 3=some I→Sat h' (bH I (l++(aR.drop i).flatMap m_)::.arr 4 ch cs::cZ cs aR::S)→Q (.exit 2) E' h')→WP ⟨Tryz.prog,told⟩ 63 (.loop ZG) E h Q:=by
 intro j
 induction j with
 |zero =>
  intro i sv l h E Q hi hlen s hE hx
  have hm:=J.1
  refine WP.loop (WP.has hE (zg rfl (zC rfl bq (by simp;omega) ?_)))
  refine zk 3 rfl (WP.exit (hx _ _ sv rfl ?_))
  rw[kL (by omega)]
  simpa using s
 |succ j ih =>
  intro i sv l h E Q hi hlen s hE hx
  have hm:=J.1
  have hc:aR[i]?=some (aR[i]'(by omega)):=bn _
  generalize (aR[i]'(by omega))=c at hc
  have NZ:=bu hc
  have aaE:=ke c NZ
  have ZF:=J.2.1 c NZ
  have jo:aR.drop i=c::aR.drop (i+1):=by
   obtain⟨h1,rfl⟩:=List.getElem?_eq_some_iff.1 hc
   exact lJ h1
  rw[jo,zu] at hlen hx
  obtain⟨pg,ps,wh,bb⟩:=c
  obtain⟨q1,q2,q3,q4,_⟩:=aaE
  dsimp only at q1 q2 q3 q4 ZF
  obtain⟨pg,rfl⟩:∃n:Nat,pg=n:=⟨pg.toNat,by omega⟩
  obtain⟨ps,rfl⟩:∃n:Nat,ps=n:=⟨ps.toNat,by omega⟩
  have U:m_ ⟨pg,ps,wh,bb⟩=digits 9 pg++digits 9 ps++[if wh then 1 else 0]++(digits 9 bb.length++bb):=by simp[m_]
  have Ng:(m_ ⟨pg,ps,wh,bb⟩).length=(digits 9 pg).length+(digits 9 ps).length+1+(digits 9 bb.length).length+bb.length:=by rw[U];simp;omega
  rw[bT,Ng] at hlen
  obtain⟨id,off,u,e1,e2,u1,u2,u3,s⟩:=G9 (s.ae [1,1]) hc
  dsimp only at e2
  have s:=s.ae [3,0,0,0]
  dsimp only[aQ,bringA,getA] at s
  refine WP.loop (WP.has hE (zg rfl (zB rfl bq (by simp;omega) ?_)))
  refine zk 5 rfl (WP.block (zg rfl (zo rfl (dD (r:=.ptr id off) rfl rfl e1) (zl rfl e2 ?_))))
  refine ay.cV s rfl rfl rfl (cK nV) (fun p7 h s => ?_)
  dsimp only[V.cells,List.length_cons,List.length_nil,Nat.reduceAdd] at s
  refine zS rfl (s.iq (j:=0) rfl oL rfl (by simp only[jB,jC,u2];rfl)) ?_
  intro h s
  dsimp only[setA] at s
  refine zk 2 rfl ?_
  have s:=s.ae [1,0]
  dsimp only[bringA,getA,aQ] at s
  have s0:=s
  refine WP.drawn [af,af,af,af,af,some (0,2),some (0,2),some (0,2),none,none] rfl (by kernel_rfl) (by kernel_rfl) ?_
  refine zM rfl (zF rfl (nW _ _) (zL rfl (s.ld (k:=1) rfl dy rfl) (au.op rfl rfl rfl (by simp only[isEff,cD]) (cj rfl (by exact js bK cD (fe (by omega) (by omega)))) ?_)))
  refine au.any rfl rfl rfl rfl (OpR.call rfl rfl rfl rfl (pT hT s (by omega) (by omega))) ?_
  intro v1 h s
  have s1:=s
  refine zF rfl (pP _ _) (zL rfl (s.ld (k:=1) rfl dy rfl) (au.op rfl rfl rfl (by simp only[isEff,cD]) (cj rfl (by exact js bK cD (fe (by omega) (by omega)))) ?_))
  refine au.any rfl rfl rfl rfl (OpR.call rfl rfl rfl rfl (pT hT s (by omega) (by simp;omega))) ?_
  intro v2 h s
  refine zA rfl ?_
  refine au.nil ⟨⟨aa,aa,aa,aa,aa,fun _ _=>.inr ⟨rfl,⟨_,jg rfl (pP _ _)⟩,aU _ rfl⟩,dR (.inr ⟨rfl,⟨_,aT rfl (s0.ld (k:=1) rfl dy rfl)⟩,aU _ rfl⟩) (.inr ⟨rfl,⟨_,aT rfl (s1.ld (k:=1) rfl dy rfl)⟩,aU _ rfl⟩),fun _ _=>.inr ⟨rfl,⟨_,cj rfl (by exact js bK cD (fe (by omega) (by omega)))⟩,aU _ rfl⟩,aa,aa,aa⟩,?_⟩
  have Bi:∀(h:H) (E:List (Nat×V)) (I:V),Sat h (bH I (l++m_ ⟨pg,ps,wh,bb⟩)::.arr 4 ch cs::cZ cs aR::S)→Has E [(1,.ptr p1 0),(3,I),(37,ch),(38,.int .i64 aR.length),(39,.int .i64 ((i:Int)+1))]→WP ⟨Tryz.prog,told⟩ 63 (.loop ZG) E h Q:=by
   intro h E I s hE
   refine ih (i+1) I _ h E Q (by omega) (by rw[bT,Ng];omega) s hE (fun E' h' sv2 BS s'=>hx E' h' sv2 BS ?_)
   rw[cE] at s'
   exact s'
  have hlp:=gS 9 pg
  have hlq:=gS 9 ps
  refine zK 7 rfl (zf rfl (vK _ _) ?_)
  have MV:wh=false∨wh=true:=by cases wh<;>simp
  rcases MV with hw|hw
  ·skip
   refine zh rfl (aT rfl (s.ld (k:=1) rfl jQ rfl)) (hw) (zk 3 rfl ?_)
   have s0:=s
   have kB:=dr (s.buf (k:=0) rfl).view
   refine WP.drawn [some (0,2),af,af,af,some (0,3),some (0,3),none,none] rfl (by kernel_rfl) (by kernel_rfl) ?_
   refine zM rfl (zM rfl (au.any rfl rfl rfl rfl (OpR.LO (n:=0) rfl s rfl rfl rfl (by decide)) ?_))
   intro v3 h s
   have s:=s.ae [1,1,0]
   dsimp only[bringA,getA,aQ] at s
   have s1:=s
   refine au.any rfl rfl rfl rfl (OpR.oO rfl (s.ae [0,1]) (bJ _ _) rfl rfl rfl rfl (by simp;omega)) ?_
   intro v4 h s
   have s:=s.del 1
   dsimp only[aQ,bringA] at s
   have s2:=s
   refine zF rfl (mY _ _) (zL rfl (s.ld (k:=1) rfl bL rfl) (au.any rfl rfl rfl rfl (OpR.call rfl rfl rfl rfl (D6 hT (s.ae [0,1]) (cI _ _) (by simp;omega))) ?_))
   intro v5 h s
   dsimp only[aQ,bringA] at s
   refine zA rfl ?_
   refine au.nil ⟨⟨fun _ _=>.inr ⟨rfl,⟨_,bj rfl⟩,kB⟩,aa,aa,aa,fun _ _=>.inr ⟨rfl,⟨_,jg rfl (mY _ _)⟩,aU _ rfl⟩,rN (.inr ⟨rfl,⟨_,aT rfl (s0.ld (k:=1) rfl bL rfl)⟩,u3⟩) (.inr ⟨rfl,⟨_,aT rfl (s1.ld (k:=1) rfl bL rfl)⟩,u3⟩) (.inr ⟨rfl,⟨_,aT rfl (s2.ld (k:=1) rfl bL rfl)⟩,u3⟩),aa,aa,aa⟩,?_⟩
   refine zr rfl (zb rfl (by exact bP (aV (by omega) (by omega))) ?_)
   refine zm rfl (zv ?_)
   refine Bi _ _ v5 ?_ ?_
   ·rw[U,hw]
    have s:=(s.del 1).del 1
    dsimp only[aQ] at s
    simpa[cE] using s
   ·exact⟨rfl,rfl,rfl,rfl,rfl,aa⟩
  ·skip
   refine zt rfl (aT rfl (s.ld (k:=1) rfl jQ rfl)) (hw) (zk 5 rfl ?_)
   have s0:=s
   have kB:=dr (s.buf (k:=0) rfl).view
   refine WP.drawn [some (0,2),af,af,af,some (0,3),some (0,3),none,none] rfl (by kernel_rfl) (by kernel_rfl) ?_
   refine zM rfl (zM rfl (au.any rfl rfl rfl rfl (OpR.LO (n:=1) rfl s rfl rfl rfl (by decide)) ?_))
   intro v3 h s
   have s:=s.ae [1,1,0]
   dsimp only[bringA,getA,aQ] at s
   have s1:=s
   refine au.any rfl rfl rfl rfl (OpR.oO rfl (s.ae [0,1]) (bJ _ _) rfl rfl rfl rfl (by simp;omega)) ?_
   intro v4 h s
   have s:=s.del 1
   dsimp only[aQ,bringA] at s
   have s2:=s
   refine zF rfl (mY _ _) (zL rfl (s.ld (k:=1) rfl bL rfl) (au.any rfl rfl rfl rfl (OpR.call rfl rfl rfl rfl (D6 hT (s.ae [0,1]) (cI _ _) (by simp;omega))) ?_))
   intro v5 h s
   dsimp only[aQ,bringA] at s
   refine zA rfl ?_
   refine au.nil ⟨⟨fun _ _=>.inr ⟨rfl,⟨_,bj rfl⟩,kB⟩,aa,aa,aa,fun _ _=>.inr ⟨rfl,⟨_,jg rfl (mY _ _)⟩,aU _ rfl⟩,rN (.inr ⟨rfl,⟨_,aT rfl (s0.ld (k:=1) rfl bL rfl)⟩,u3⟩) (.inr ⟨rfl,⟨_,aT rfl (s1.ld (k:=1) rfl bL rfl)⟩,u3⟩) (.inr ⟨rfl,⟨_,aT rfl (s2.ld (k:=1) rfl bL rfl)⟩,u3⟩),aa,aa,aa⟩,?_⟩
   refine zr rfl (zb rfl (by exact bP (aV (by omega) (by omega))) ?_)
   refine zm rfl (zv ?_)
   refine Bi _ _ v5 ?_ ?_
   ·rw[U,hw]
    have s:=(s.del 1).del 1
    dsimp only[aQ] at s
    simpa[cE] using s
   ·exact⟨rfl,rfl,rfl,rfl,rfl,aa⟩
theorem Qs (J:W told){kd:Nat}{ch:V}{aR:List ct}(s:Sat h (X::.arr 4 ch cs::cZ cs aR::S))(hX:cX X (dc dt data))(hg:dY kd aR=true)(I:vO aR)
 (N6:tx<18446744073709551616)(AP:pv<18446744073709551616)(EZ:nx<18446744073709551616)(hlen:data.length+(aR.flatMap m_).length≤70368744177664):
  Call ⟨Tryz.prog,told⟩ 212 [.agg (iH kd tx pv nx dt ch)] h fun r h'=>Sat h' (bH r (dF kd tx pv nx data aR)::X::.arr 4 ch cs::cZ cs aR::S):=by
 have U:=s.jW (j:=1) rfl
 have lE:=s.aL (k:=0) rfl hX
 have AL:=dr lE
 have fM:=mO (kd:=kd) (tx:=tx) (pv:=pv) (nx:=nx) lE.cells.2 U.2.1
 have hk:1≤kd∧kd≤9:=by simp[dY] at hg;omega
 have ke:∀c∈aR,c.Ok:=by
  simp only[dY,bS,qK,gN] at hg
  exact hg.2
 have hm:=I.1
 have h1:=gS 9 tx
 have h2:=gS 9 pv
 have h3:=gS 9 nx
 have h4:=gS 9 data.length
 have h5:=gS 9 aR.length
 refine Call.of_wp (J.free _ rfl) Tryz.func212 rfl rfl (zg rfl (ay.cV s rfl rfl rfl (gP rfl fM) ?_))
 intro p1 h s
 dsimp only[V.cells] at s
 refine zk 4 rfl (zY s 0 qR dy rfl (zo rfl (cj rfl (by exact js bK Tryz.underlying5 (V3 (by omega) (by omega)))) ?_))
 refine ay.any rfl rfl rfl (OpR.LO (n:=kd) rfl s rfl rfl rfl (by omega)) ?_
 intro v3 h s
 refine zk 5 rfl (zY s 1 J_ fA rfl (zY s 1 Ka fA rfl (zY s 1 Kb fA rfl (zo rfl (dn rfl (by rw[Yg];rfl)) ?_))))
 refine zk 2 rfl (WP.block (WP.loop (zg rfl (zB rfl bq (by decide) ?_))))
 refine zk 5 rfl (WP.block (zg rfl (zo rfl (DQ rfl rfl (r:=.int .u64 (tx:Int)) (by simp only[indexV,G2,ot,oI,fA];rfl)) ?_)))
 refine zk 5 rfl (zc rfl (pT J s (by omega) (by simp only[bT,bI,dz];omega)) ?_)
 intro v3 h s
 refine za rfl (zv (zr rfl (zb rfl (by exact bP (aV (by omega) (by omega))) ?_)))
 refine zm rfl (zv (WP.loop (zg rfl (zt rfl (aJ rfl rfl bq) (by decide) ?_))))
 refine zk 5 rfl (WP.block (zg rfl (zo rfl (DQ rfl rfl (r:=.int .u64 (pv:Int)) (by simp only[indexV,G2,ot,oI,fA];rfl)) ?_)))
 refine zk 5 rfl (zc rfl (pT J s (by omega) (by simp only[bT,bI,dz];omega)) ?_)
 intro v3 h s
 refine za rfl (zv (zr rfl (zb rfl (by exact bP (aV (by omega) (by omega))) ?_)))
 refine zm rfl (zv (WP.loop (zg rfl (zt rfl (aJ rfl rfl bq) (by decide) ?_))))
 refine zk 5 rfl (WP.block (zg rfl (zo rfl (DQ rfl rfl (r:=.int .u64 (nx:Int)) (by simp only[indexV,G2,ot,oI,fA];rfl)) ?_)))
 refine zk 5 rfl (zc rfl (pT J s (by omega) (by simp only[bT,bI,dz];omega)) ?_)
 intro v3 h s
 refine za rfl (zv (zr rfl (zb rfl (by exact bP (aV (by omega) (by omega))) ?_)))
 refine zm rfl (zv (WP.loop (zg rfl (zh rfl (aJ rfl rfl bq) (by decide) ?_))))
 refine zk 3 rfl (WP.exit (zw ?_))
 have s0:=s
 have Ge:=dr (s.buf (k:=0) rfl).view
 refine WP.drawn [af,af,af,af,some (0,2),some (0,2),some (0,2),some (0,2),none,none] rfl (by kernel_rfl) (by kernel_rfl) ?_
 refine zM rfl (zF rfl (vG _ _) (zL rfl (s.ld (k:=1) rfl bL rfl) (au.any rfl rfl rfl rfl (OpR.call rfl rfl rfl rfl (D6 J (s.ae [0,1]) hX (by simp only[bT,bI,dz];omega))) ?_)))
 intro v4 h s
 have s:=s.ae [0,1,0]
 have s1:=s
 refine zF rfl (kP _ _) (zL rfl (s.ld (k:=1) rfl qg rfl) (zO rfl (aY rfl rfl rfl (s.vN (j1:=3) (j2:=4) rfl rfl iQ)) (au.op rfl rfl rfl (by simp only[isEff,cD]) (cj rfl (by exact js bK cD (fe (by omega) (by omega)))) ?_)))
 refine au.any rfl rfl rfl rfl (OpR.call rfl rfl rfl rfl (pT J s (by omega) (by simp only[bT,bI,dz];omega))) ?_
 intro v5 h s
 refine zA rfl ?_
 refine au.nil ⟨⟨aa,aa,aa,aa,fun _ _=>.inr ⟨rfl,⟨_,jg rfl (kP _ _)⟩,aU _ rfl⟩,dR (.inr ⟨rfl,⟨_,aT rfl (s0.ld (k:=1) rfl qg rfl)⟩,U.2.2⟩) (.inr ⟨rfl,⟨_,aT rfl (s1.ld (k:=1) rfl qg rfl)⟩,U.2.2⟩),dR (.inr ⟨rfl,⟨_,aY rfl rfl rfl (s0.vN (j1:=3) (j2:=4) rfl rfl iQ)⟩,aU _ rfl⟩) (.inr ⟨rfl,⟨_,aY rfl rfl rfl (s1.vN (j1:=3) (j2:=4) rfl rfl iQ)⟩,aU _ rfl⟩),fun _ _=>.inr ⟨rfl,⟨_,cj rfl (by exact js bK cD (fe (by omega) (by omega)))⟩,aU _ rfl⟩,aa,aa,aa⟩,?_⟩
 refine zK 3 rfl (zY s 1 kP qg rfl (zo rfl (aY rfl rfl rfl (s.vN (j1:=3) (j2:=4) rfl rfl iQ)) (zk 2 rfl (WP.block ?_))))
 have s:=s.ae [0,2,2,1]
 refine N5 J ke I aR.length 0 v5 _ _ _ _ (by omega) (by rw[fY];simp only[bT,bI,dz];omega) s ⟨rfl,rfl,rfl,rfl,rfl,aa⟩ (fun E' h' Wj fW s' => ?_)
 refine WP.has (F:=[(3,Wj)]) ⟨fW,aa⟩ (zK 5 rfl (WP.ret ⟨aa,_,rfl,?_⟩))
 have ZH:=(s'.ae [0,2,0,0]).del 4
 dsimp only[List.cons_append,List.nil_append,List.drop,aQ,bringA,getA] at ZH
 simpa[dF,cE] using ZH
end
def iD (aM:Nat)(b:List Nat): List Nat:=le 4 b.length++le 4 (sO aM b)++b
theorem qY (aM:Nat)(b:List Nat): (iD aM b).length=8+b.length:=by simp[iD,dX];omega
theorem wO : ∃i,Tryz.prog.info? 3=some i∧i.size=1∧i.bytes=8 :=
 ⟨_,(show Tryz.prog.info? 3=some ((Tryz.prog.info? 3).getD default) by kernel_rfl),by kernel_rfl,by kernel_rfl⟩
section
variable {told:dI} {p:Nat} {v w:V} {m:List Nat}
theorem E0 (I:W told)(s:Sat h S)(J:getA S k=some X)(U:cX X (dc v l))(hl:l.length≤4611686018427387904):
  Call ⟨Tryz.prog,told⟩ 190 [.int .u64 (n:Int),v] h fun r h'=>r=.int .u32 (sO n l:Nat)∧Sat h' S :=
 (NK I.SE s.wf (s.aL J U) hl).mono fun _ _ ⟨h1,h2⟩=>⟨h1,s.cO h2⟩
structure CG (tx pv nx:Nat)(data:List Nat)(aR:List ct): Prop where
 fit:vO aR
 tx:tx<18446744073709551616
 pv:pv<18446744073709551616
 nx:nx<18446744073709551616
 len:data.length+(aR.flatMap m_).length≤70368744177664
theorem N7 (J:W told){kd:Int}{ch:V}{aR:List ct}(s:Sat h (X::.arr 4 ch cs::cZ cs aR::S))(hX:cX X (dc dt data))(I:CG tx pv nx data aR):
  Call ⟨Tryz.prog,told⟩ 163 [.agg (iH kd tx pv nx dt ch),.int .u64 (aM:Int)] h fun r h' =>
  (dY kd aR=false∧r=.bD [.bw,.int .i64 1]∧Sat h' (X::.arr 4 ch cs::cZ cs aR::S)) ∨
  (dY kd aR=true∧1048576<(dF kd tx pv nx data aR).length∧r=.bD [.bw,.int .i64 2]∧Sat h' (X::.arr 4 ch cs::cZ cs aR::S)) ∨
  (dY kd aR=true∧(dF kd tx pv nx data aR).length≤1048576∧∃u,r=.bD [u,.int .i64 0]∧Sat h' (bH u (iD aM (dF kd tx pv nx data aR))::X::.arr 4 ch cs::cZ cs aR::S)):=by
 have kg:=s.jW (j:=1) rfl
 have U:=s.aL (k:=0) rfl hX
 have fM:=mO (kd:=kd) (tx:=tx) (pv:=pv) (nx:=nx) U.cells.2 kg.2.1
 refine Call.of_wp (J.free _ rfl) Tryz.func163 rfl rfl (zg rfl (ay.cV s rfl rfl rfl (gP rfl fM) ?_))
 intro p1 h s
 dsimp only[V.cells] at s
 refine zk 6 rfl (zl rfl (s.fN (k:=0) rfl kY fE) (zc rfl (G_ J (s.ae [2,2]) U.cells.2 I.fit) ?_))
 rintro r h' ⟨rfl,s⟩
 cases hg:dY kd aR with
 |false =>
  exact zo rfl (dQ rfl rfl) (zk 7 rfl (WP.ret ⟨aa,_,rfl,.inl ⟨rfl,rfl,(s.ae [3,0,0]).del 3⟩⟩))
 |true =>
  refine zo rfl (dQ rfl rfl) (zk 5 rfl (zl rfl (s.fN (k:=2) rfl kY fE) ?_))
  have hk:∃n:Nat,kd=n:=⟨kd.toNat,by simp[dY] at hg;omega⟩
  obtain⟨kd,rfl⟩:=hk
  refine zc rfl (Qs J (s.ae [3,0,0]) hX hg I.fit I.tx I.pv I.nx I.len) ?_
  intro u h s
  dsimp only[bringA,getA,aQ] at s
  have xz:(dF kd tx pv nx data aR).length<9223372036854775808:=by
   have h1:=gS 9 tx
   have h2:=gS 9 pv
   have h3:=gS 9 nx
   have h4:=gS 9 data.length
   have h5:=gS 9 aR.length
   have h6:=I.len
   simp only[dF,bT,bI,dz]
   omega
  generalize Kk:dF kd tx pv nx data aR=bd at s xz ⊢
  refine zk 6 rfl (zo rfl (aY rfl rfl rfl (bk aW (s.aL (k:=0) rfl (bJ _ _)))) ?_)
  by_cases D7:1048576<bd.length
  ·skip
   refine zB rfl dS (by simp;omega) ?_
   exact zk 7 rfl (WP.ret ⟨aa,_,rfl,.inr (.inl ⟨rfl,D7,rfl,(s.del 4).del 0⟩)⟩)
  ·skip
   refine zC rfl dS (by simp;omega) ?_
   refine zk 6 rfl (zo rfl (aY rfl rfl rfl (bk aW (s.aL (k:=0) rfl (bJ _ _)))) (zb rfl (by exact bP (aV (by omega) (by omega))) ?_))
   refine ay.any rfl rfl rfl (OpR.vL (c:=8+bd.length) rfl s rfl rfl rfl rfl (by omega)) ?_
   intro v h s
   refine zm rfl (zo rfl (aY rfl rfl rfl (bk aW (s.aL (k:=1) rfl (bJ _ _)))) (zo rfl (cj rfl (by exact js bK cD (fe (by omega) (by omega)))) ?_))
   refine zc rfl (vM (z:=4) J s (by decide) (by simp)) ?_
   intro v h s
   have b8:=(s.buf (k:=1) rfl).1
   refine zk 7 rfl (zc rfl (E0 (n:=aM) J s (k:=1) rfl (bJ _ _) (by omega)) ?_)
   rintro r h ⟨rfl,s⟩
   have lC:=G5 (aM:=aM) b8
   refine zo rfl (cj rfl (by exact js Tryz.underlying285 cD (fe (by omega) (by omega)))) ?_
   refine zc rfl (vM (z:=4) J s (by decide) (by simp[dX])) ?_
   intro v h s
   refine zk 6 rfl (ay.any rfl rfl rfl (OpR.oO rfl s (bJ _ _) rfl rfl rfl rfl (by simp only[bT,dX,dz];omega)) ?_)
   intro v h s
   refine zk 3 rfl (WP.ret ⟨aa,_,rfl,?_⟩)
   refine .inr (.inr ⟨rfl,by omega,v,rfl,?_⟩)
   have s:=(s.del 5).del 1
   dsimp only[aQ] at s
   simpa[iD,cE] using s
def Lg.app (μ:Lg)(b:List Nat): Lg:={ μ with b:=μ.b++b,br:=μ.br++[μ.b.length] }
theorem LZ (hT:W told){kd:Int}{ch:V}{aR:List ct}(s:Sat h (bh q p μ::aD p δ::X::.arr 4 ch cs::cZ cs aR::S))(hX:cX X (dc dt data))(lX:CG tx pv nx data aR)
 (J:μ.Ok)(hf:δ.aA<4294967296)(hl:δ.log.length≤16777216)(hr:δ.room≤16777216):
  Call ⟨Tryz.prog,told⟩ 104 [.ptr q 0,.agg (iH kd tx pv nx dt ch)] h fun r h' =>
  (∃e:Int,r=.bD [.int .u64 0,.int .i64 e]∧((dY kd aR=false∧e=1)∨(dY kd aR=true∧1048576<(dF kd tx pv nx data aR).length∧e=2)∨(dY kd aR=true∧(dF kd tx pv nx data aR).length≤1048576∧δ.dead=true∧e=9) ∨
    (dY kd aR=true∧(dF kd tx pv nx data aR).length≤1048576∧δ.dead=false∧δ.room<δ.log.length+(iD (μ.base+μ.b.length) (dF kd tx pv nx data aR)).length∧e=7))∧Sat h' (bh q p μ::aD p δ::X::.arr 4 ch cs::cZ cs aR::S)) ∨
  (dY kd aR=true∧(dF kd tx pv nx data aR).length≤1048576∧δ.dead=false∧δ.log.length+(iD (μ.base+μ.b.length) (dF kd tx pv nx data aR)).length≤δ.room∧δ.aA=0∧r=.bD [.int .u64 0,.int .i64 9] ∧
   Sat h' (bh q p μ::aD p { δ.die with tail:=iD (μ.base+μ.b.length) (dF kd tx pv nx data aR) }::X::.arr 4 ch cs::cZ cs aR::S)) ∨
  (dY kd aR=true∧(dF kd tx pv nx data aR).length≤1048576∧δ.dead=false∧δ.log.length+(iD (μ.base+μ.b.length) (dF kd tx pv nx data aR)).length≤δ.room∧δ.aA≠0∧r=.bD [.int .u64 ((μ.base+μ.b.length:Nat):Int),.int .i64 0] ∧
   Sat h' (bh q p (μ.app (iD (μ.base+μ.b.length) (dF kd tx pv nx data aR)))::aD p { δ.cQ with log:=δ.log++iD (μ.base+μ.b.length) (dF kd tx pv nx data aR) }::X::.arr 4 ch cs::cZ cs aR::S)):=by
 have kg:=s.jW (j:=3) rfl
 have lE:=s.aL (k:=2) rfl hX
 have fM:=mO (kd:=kd) (tx:=tx) (pv:=pv) (nx:=nx) lE.cells.2 kg.2.1
 have wM:=J.size
 refine Call.of_wp (hT.free _ rfl) Tryz.func104 rfl rfl (zg rfl (ay.cV s rfl rfl rfl (gP rfl fM) ?_))
 intro p1 h s
 dsimp only[V.cells] at s
 have s:=s.ae [1,0]
 refine zk 6 rfl (zc rfl (nZ hT s J.size) ?_)
 rintro v h' ⟨rfl,rfl⟩
 refine zk 4 rfl (zl rfl (s.fN (k:=1) rfl kY fE) (zm rfl (zc rfl (N7 (aM:=μ.base+μ.b.length) hT (s.ae [3,3,3]) hX lX) ?_)))
 generalize hrc:iD (μ.base+μ.b.length) (dF kd tx pv nx data aR)=rc
 have E4:rc.length=8+(dF kd tx pv nx data aR).length:=by rw[←hrc,qY]
 rintro r h' (⟨hg,rfl,s⟩|⟨hg,D7,rfl,s⟩|⟨hg,U,u,rfl,s⟩)
 ·dsimp only[bringA,getA,aQ] at s
  exact zk 10 rfl (zB rfl aX (rfl) (zk 8 rfl (WP.ret ⟨aa,_,rfl,.inl ⟨1,rfl,.inl ⟨hg,rfl⟩,(s.ae [3,4,0,0,0]).del 5⟩⟩)))
 ·dsimp only[bringA,getA,aQ] at s
  exact zk 10 rfl (zB rfl aX (rfl) (zk 8 rfl (WP.ret ⟨aa,_,rfl,.inl ⟨2,rfl,.inr (.inl ⟨hg,D7,rfl⟩),(s.ae [3,4,0,0,0]).del 5⟩⟩)))
 ·dsimp only[bringA,getA,aQ] at s
  have b8:=(s.buf (k:=0) rfl).1
  obtain⟨xy,_,cap,_,rfl,_⟩:=s.kq (by omega)
  obtain⟨bv,sv,s⟩:=dw.1 (s.ae [4])
  refine zk 10 rfl (zC rfl aX (rfl) (zk 8 rfl (zY s 0 pJ jK rfl (zm rfl ?_))))
  have s:=s.ae [8,3]
  refine zc rfl (LV hT s (bJ _ _) (by omega) hf (by omega) (by omega)) ?_
  rintro r h (⟨hd,rfl,s⟩|⟨hd,abN,rfl,s⟩|⟨hd,I,h0,rfl,s⟩|⟨hd,I,h0,rfl,s⟩)
  ·refine ay.op rfl rfl rfl (fy rfl) ?_
   exact zk 4 rfl (zB rfl aX (rfl) (zk 8 rfl (WP.ret ⟨aa,_,rfl,.inl ⟨9,rfl,.inr (.inr (.inl ⟨hg,U,hd,rfl⟩)),(dw.2 ⟨bv,sv,((s.ae [2,2,2,0,1,1,1]).del 8).del 7⟩)⟩⟩)))
  ·skip
   exact zk 5 rfl (zB rfl aX (rfl) (zk 8 rfl (WP.ret ⟨aa,_,rfl,.inl ⟨7,rfl,.inr (.inr (.inr ⟨hg,U,hd,by omega,rfl⟩)),(dw.2 ⟨bv,sv,((s.ae [2,2,2,0,1,1,1]).del 8).del 7⟩)⟩⟩)))
  ·skip
   exact zk 5 rfl (zB rfl aX (rfl) (zk 8 rfl (WP.ret ⟨aa,_,rfl,.inr (.inl ⟨hg,U,hd,I,h0,rfl,(dw.2 ⟨bv,sv,((s.ae [2,2,2,0,1,1,1]).del 8).del 7⟩)⟩)⟩)))
  ·skip
   have s:=s.ae [2,2,2,1,0,0,0,0]
   refine zk 5 rfl (zC rfl aX (rfl) (zk 4 rfl ?_))
   have s0:=s
   have NF:=dr (s.buf (k:=1) rfl).view
   have AQ:=(s.jW (j:=2) rfl).2.2
   refine WP.drawn [some (0,3),some (0,2),some (0,2),some (0,2),some (0,2),af,af,af,af,af,af,af,af,af,af] rfl (by kernel_rfl) (by kernel_rfl) ?_
   refine zM rfl (zM rfl (zN rfl (zF rfl (iW _ _) (zL rfl (s.ld (k:=0) rfl ng rfl) (zM rfl (zN rfl (zF rfl (eH _ _) (zL rfl (s.ld (k:=0) rfl bL rfl) (zO rfl (aY rfl rfl rfl (bk aW (s.aL (k:=1) rfl (bJ _ _)))) ?_)))))))))
   obtain⟨i1,kI,jd,qj⟩:=wO
   obtain⟨iv,h1,e1,s1⟩:=kr (P:=Tryz.prog) (k:=1) (x:=.int .i64 (μ.b.length:Int)) s eC EN jt rfl (by decide) (by decide) rfl rfl
   dsimp only[V.cells] at s1
   refine au.any rfl rfl rfl rfl (OpR.of (R:=fun v h'=>v=iv∧h'=h1) (mE rfl e1) ⟨rfl,rfl⟩) ?_
   rintro v h' ⟨rfl,rfl⟩
   have sP:=J.many
   obtain⟨Wj,h2,e2,s2⟩:=iN (s1.ae [3,0]) eC kI EN jd (by omega) rfl (by decide) (by simp only[j_,bI,dz];omega)
   refine au.any rfl rfl rfl rfl (OpR.of (R:=fun v h'=>v=Wj∧h'=h2) (mD rfl rfl e2) ⟨rfl,rfl⟩) ?_
   rintro v h' ⟨rfl,rfl⟩
   have hv:=s2.jW (j:=0) rfl
   refine zN rfl (zF rfl (iW _ _) (au.ik rfl rfl rfl (OpR.dg rfl rfl rfl (s2.dV (k:=2) rfl LG rfl (by decide) hv.1 hv.2.1)) ?_))
   rintro v h ⟨rfl,s⟩
   refine au.nil ⟨⟨fun _ _=>.inr ⟨rfl,⟨_,bj rfl⟩,aU _ rfl⟩,fun _ _=>.inr ⟨rfl,⟨_,bj rfl⟩,aU _ rfl⟩,fun _ _=>.inr ⟨rfl,⟨_,jU rfl⟩,aU _ rfl⟩,fun _ _=>.inr ⟨rfl,⟨_,jg rfl (iW _ _)⟩,aU _ rfl⟩,dR (.inr ⟨rfl,⟨_,aT rfl (s0.ld (k:=0) rfl ng rfl)⟩,AQ⟩) (.inr ⟨rfl,⟨_,aT rfl (s1.ld (k:=1) rfl ng rfl)⟩,AQ⟩),aa,aa,aa,aa,aa,aa,aa,aa,aa,aa,aa⟩,?_⟩
   refine zK 5 rfl (zY s 2 eH bL rfl (zm rfl (ay.any rfl rfl rfl (OpR.oO rfl (s.ae [3,3]) (bJ _ _) rfl rfl rfl rfl (by have:=J.len;omega)) ?_)))
   intro Wk h s
   have hv:=(s.buf (k:=0) rfl).view.cells
   refine zn rfl (zf rfl (eH _ _) (zS rfl (s.dV (k:=4) rfl ju rfl (by decide) hv.1 hv.2) ?_))
   intro h s
   refine zk 7 rfl (WP.ret ⟨aa,_,rfl,?_⟩)
   refine .inr (.inr ⟨hg,U,hd,I,h0,rfl,dw.2 ⟨Wk,v,?_⟩⟩)
   have s:=(((s.ae [4,0,1]).del 4).del 3).del 7
   have e:gU (μ.app rc).br=gU μ.br++[.int .i64 (μ.b.length:Int)]:=by simp[Lg.app,gU]
   rw[e]
   exact s
end
def Dk.bQ (δ:Dk): Int×Dk:=if δ.dead=true then(9,δ) else if δ.aA=0 then(9,δ.die) else(0,{ δ.cQ with aH:=δ.log.length })
def Dk.a_ (δ:Dk)(n:Int)(b:List Nat): Int×Dk:=if δ.dead=true then(9,δ) else if ¬(0≤n∧n<δ.ai.length∧b.length=512) then(1,δ) else
 if δ.aA=0 then(9,{ δ.die with cW:=some (n.toNat,b) }) else(0,δ.wr n b)
def Dk.gC (δ:Dk)(b:List Nat): Int×Dk:=if δ.dead=true then(9,δ) else if 64<b.length then(1,δ) else if δ.aA=0 then(9,δ.die) else(0,{ δ.cQ with mark:=b })
def Dk.iY (δ:Dk)(b:List Nat): Int×Dk:=if δ.dead=true then(9,δ) else if δ.room<δ.log.length+b.length then(7,δ) else if δ.aA=0 then(9,{ δ.die with tail:=b }) else(0,{ δ.cQ with log:=δ.log++b })
def Dk.gV (δ:Dk)(n:Int)(b:List Nat): Int×Dk:=if δ.dead=true then(9,δ) else if ¬(0≤n∧n≤δ.aH∧b.length≤64) then(1,δ) else if δ.aA=0 then(9,δ.die) else
 (0,{ δ.cQ with log:=δ.log.drop n.toNat,aH:=δ.aH-n.toNat,mark:=b })
def Dk.lH (δ:Dk)(n:Int): Int:=if δ.dead=true then 9 else if ¬(0≤n∧n<δ.ai.length) then 1 else 0
structure Dk.Ok (δ:Dk): Prop where
 aA:δ.aA<4294967296
 len:δ.log.length≤16777216
 room:δ.room≤16777216
 now:∀e∈δ.now,e.2.length=512
 ai:∀(i:Nat) (b:List Nat),δ.ai[i]?=some (some b)→b.length=512
 aH:δ.aH≤δ.log.length
 many:δ.ai.length≤65536
theorem Dk.Ok.cQ (h:δ.Ok): δ.cQ.Ok:=⟨by have:=h.aA;simp only[Dk.cQ];split<;>omega,h.len,h.room,h.now,h.ai,h.aH,h.many⟩
theorem Dk.Ok.die (h:δ.Ok): δ.die.Ok:=⟨h.aA,h.len,h.room,h.now,h.ai,h.aH,h.many⟩
theorem Dk.Ok.bQ (h:δ.Ok): δ.bQ.2.Ok:=by
 unfold Dk.bQ
 split
 ·exact h
 ·split
  ·exact h.die
  ·exact⟨h.cQ.aA,h.len,h.room,h.now,h.ai,aP _,h.many⟩
theorem fh {n:Int}{x:α}: ∀ {l:List (Int×α)},lookL n l=some x→(n,x)∈l:=by
 intro l
 induction l<;>grind[lookL]
theorem Dk.Ok.at (I:δ.Ok)(n:Int): (δ.at n).length=512:=by
 unfold Dk.at
 cases J:lookL n δ.now with
 |some b=>exact I.now _ (fh J)
 |none =>
  cases U:δ.ai[n.toNat]? with
  |none=>grind
  |some o =>
   cases o with
   |none=>grind
   |some b=>exact I.ai _ _ U
section
variable {told:dI} {p:Nat} {v:V}
theorem T3 (I:W told)(s:Sat h (aD p δ::S))(J:δ.aA<4294967296): Call ⟨Tryz.prog,told⟩ 128 [.ptr p 0] h fun v h'=>v=.int .i64 δ.bQ.1∧Sat h' (aD p δ.bQ.2::S):=by
 refine(EX I s J).mono fun v h' U => ?_
 grind[Dk.bQ]
theorem Kp (I:W told){n:Int}(s:Sat h (aD p δ::X::S))(J:cX X (dc x b))(U:b.length<1073741824)(hf:δ.aA<4294967296)(hw:δ.waiting.length≤268435456):
  Call ⟨Tryz.prog,told⟩ 133 [.ptr p 0,.int .i64 n,x] h fun v h'=>v=.int .i64 (δ.a_ n b).1∧Sat h' (aD p (δ.a_ n b).2::X::S):=by
 refine(NN I s J U hf hw).mono fun v h' hr => ?_
 grind[Dk.a_]
theorem N8 (J:W told){n:Int}(s:Sat h (aD p δ::S))(I:δ.Ok): Call ⟨Tryz.prog,told⟩ 167 [.ptr p 0,.int .i64 n] h fun v h' =>
  (δ.lH n≠0∧v=.bD [.bw,.int .i64 (δ.lH n)]∧Sat h' (aD p δ::S))∨(δ.lH n=0∧∃u,v=.bD [u,.int .i64 0]∧Sat h' (bH u (δ.at n)::aD p δ::S)):=by
 refine(Ql J s (I.at n)).mono fun v h' U => ?_
 grind[Dk.lH]
end
abbrev LD := Lg×Dk
def aK (x:LD)(n:Nat): Int×LD:=if n<x.1.base+x.1.forced then(0,x) else if x.2.bQ.1≠0 then(x.2.bQ.1,(x.1,x.2.bQ.2)) else(0,({ x.1 with forced:=x.1.b.length },x.2.bQ.2))
def dZ (x:LD)(n:Nat): Int×LD:=if ¬(x.1.hasB n=true∧n<x.1.base+x.1.forced) then(1,x) else if (x.2.gC (eo x.1.base n)).1≠0 then((x.2.gC (eo x.1.base n)).1,(x.1,(x.2.gC (eo x.1.base n)).2)) else
 (0,({ x.1 with check:=n },(x.2.gC (eo x.1.base n)).2))
def bX (μ:Lg)(kd:Int)(tx pv nx:Nat)(data:List Nat)(aR:List ct): List Nat:=iD (μ.base+μ.b.length) (dF kd tx pv nx data aR)
def aI (x:LD)(kd:Int)(tx pv nx:Nat)(data:List Nat)(aR:List ct): (Nat×Int)×LD :=
 if dY kd aR=false then((0,1),x) else if 1048576<(dF kd tx pv nx data aR).length then((0,2),x) else
 if (x.2.iY (bX x.1 kd tx pv nx data aR)).1≠0 then((0,(x.2.iY (bX x.1 kd tx pv nx data aR)).1),(x.1,(x.2.iY (bX x.1 kd tx pv nx data aR)).2)) else
 ((x.1.base+x.1.b.length,0),(x.1.app (bX x.1 kd tx pv nx data aR),(x.2.iY (bX x.1 kd tx pv nx data aR)).2))
theorem I5 : δ.bQ.2.waiting=δ.waiting:=by
 unfold Dk.bQ
 split
 ·rfl
 ·split<;>rfl
theorem nB {x:LD}: (aK x n).2.2.waiting=x.2.waiting:=by
 grind[aK,I5]
theorem Dk.Ok.a_ {n:Int}(h:δ.Ok): (δ.a_ n b).2.Ok:=by
 unfold Dk.a_
 split
 ·exact h
 ·split
  ·exact h
  ·split
   ·exact⟨h.aA,h.len,h.room,h.now,h.ai,h.aH,h.many⟩
   ·refine⟨h.cQ.aA,h.len,h.room,fun e he => ?_,h.ai,h.aH,h.many⟩
    have:∀l:List (Int×List Nat),(∀e∈l,e.2.length=512)→∀e∈cY n b l,e.2.length=512:=by
     intro l
     induction l<;>grind[cY]
    exact this δ.now h.now e he
theorem mH {x:LD}(h:x.2.Ok): (aK x n).2.2.Ok:=by
 unfold aK
 split
 ·exact h
 ·split
  ·exact h.bQ
  ·exact h.bQ
theorem Lg.Ok.T4 (h:μ.Ok): ({ μ with forced:=μ.b.length }:Lg).Ok:=⟨h.size,h.many,h.low,h.wL,aP _,h.len,h.check⟩
theorem uU {x:LD}(h:x.1.Ok): (aK x n).2.1.Ok:=by
 unfold aK
 split
 ·exact h
 ·split
  ·exact h
  ·exact h.T4
section
variable {told:dI} {p:Nat} {v:V}
theorem D8 (J:W told)(s:Sat h (bh q p μ::aD p δ::S))(I:μ.Ok)(U:δ.aA<4294967296): Call ⟨Tryz.prog,told⟩ 93 [.ptr q 0,.int .u64 (n:Int)] h fun v h' =>
  v=.int .i64 (aK (μ,δ) n).1∧Sat h' (bh q p (aK (μ,δ) n).2.1::aD p (aK (μ,δ) n).2.2::S):=by
 refine(NV J s I U).mono fun v h' hr => ?_
 grind[aK,Dk.bQ]
theorem T5 (J:W told)(s:Sat h (bh q p μ::aD p δ::S))(I:μ.Ok)(U:δ.aA<4294967296)(hn:n<18446744073709551616): Call ⟨Tryz.prog,told⟩ 112 [.ptr q 0,.int .u64 (n:Int)] h fun v h' =>
  v=.int .i64 (dZ (μ,δ) n).1∧Sat h' (bh q p (dZ (μ,δ) n).2.1::aD p (dZ (μ,δ) n).2.2::S):=by
 refine(NY J s I U hn).mono fun v h' hr => ?_
 grind[mA,dZ,Dk.gC]
theorem He (hT:W told){kd:Int}{ch:V}{aR:List ct}(s:Sat h (bh q p μ::aD p δ::X::.arr 4 ch cs::cZ cs aR::S))(hX:cX X (dc dt data))(J:CG tx pv nx data aR)(U:μ.Ok)(I:δ.Ok):
  Call ⟨Tryz.prog,told⟩ 104 [.ptr q 0,.agg (iH kd tx pv nx dt ch)] h fun r h' =>
  r=.bD [.int .u64 ((aI (μ,δ) kd tx pv nx data aR).1.1:Nat),.int .i64 (aI (μ,δ) kd tx pv nx data aR).1.2] ∧
  Sat h' (bh q p (aI (μ,δ) kd tx pv nx data aR).2.1::aD p (aI (μ,δ) kd tx pv nx data aR).2.2::X::.arr 4 ch cs::cZ cs aR::S):=by
 refine(LZ hT s hX J U I.aA I.len I.room).mono fun v h' hr => ?_
 grind[aI,Dk.iY,bX]
end
structure Fm where
 aO:Int
 b:List Nat
 pins:Int
 fQ:Bool
 changed:Bool
variable {f:Fm} {m:List Fm}
structure Pl where
 aj:List Fm
 aC:List (Int×Int)
 aN:List (Int×(Nat×Bool))
 hand:Nat
variable {π:Pl}
def gA (f:Fm)(v:V): List V:=[.int .i64 f.aO,v,.int .i64 f.pins,.bool f.fQ,.bool f.changed]
def tS : List V→List Fm→aS
 |[],[]=>.pu True
 |a::v::c::d::e::l,x::m=>.an (.an (.pu (a=.int .i64 x.aO∧c=.int .i64 x.pins∧d=.bool x.fQ∧e=.bool x.changed)) (.cm v x.b)) (tS l m)
 |_,_=>.pu False
theorem aF.fm : ∀(m:List Fm) (l:List V),aF (tS l m):=by
 intro m
 induction m with
 |nil=>intro l;rcases l with _|⟨a,_|⟨b,_|⟨c,_|⟨d,_|⟨e,l⟩⟩⟩⟩⟩<;>exact aF.pu _
 |cons x m I=>intro l;rcases l with _|⟨a,_|⟨b,_|⟨c,_|⟨d,_|⟨e,l⟩⟩⟩⟩⟩<;>first|exact aF.pu _|exact aF.an (aF.an (aF.pu _) (aF.cm _ _)) (I l)
theorem yy {a b:PM}: ∀ {m:List Fm} {l:List V} {i:Nat} {f:Fm},(tS l m).p a b→m[i]?=some f→∃pre v post,l=pre++(gA f v++post)∧pre.length=i*5∧(aS.cm v f.b).p a b ∧
  (∀(f':Fm) (v':V) (I J:PM),(aS.cm v' f'.b).p I J→PM.le a I→PM.le b J→(tS (pre++(gA f' v'++post)) (m.set i f')).p I J):=by
 intro m
 induction m with
 |nil=>intro l i f h U;simp at U
 |cons x m ih =>
  intro l i f h U
  rcases l with _|⟨p,_|⟨q,_|⟨w,_|⟨d,_|⟨e,l⟩⟩⟩⟩⟩<;>first|exact h.elim|skip
  obtain⟨⟨⟨h1,h2,h3,h4⟩,h5⟩,h6⟩:=h
  cases i with
  |zero =>
   simp at U
   subst U
   refine⟨[],q,l,?_,rfl,h5,fun f' v' I J hv ha hb=>⟨⟨⟨rfl,rfl,rfl,rfl⟩,hv⟩,(tS l m).mono _ _ _ _ ha hb h6⟩⟩
   rw[h1,h2,h3,h4];rfl
  |succ i =>
   simp at U
   obtain⟨pre,v,post,e1,e2,e3,e4⟩:=ih h6 U
   refine⟨p::q::w::d::e::pre,v,post,?_,?_,e3,fun f' v' I J hv ha hb=>⟨⟨⟨h1,h2,h3,h4⟩,aS.mono _ _ _ _ _ ha hb h5⟩,e4 f' v' I J hv ha hb⟩⟩
   ·rw[e1];rfl
   ·simp only[bI,e2];omega
theorem T6 {a b:PM}: ∀ {m:List Fm} {l:List V},(tS l m).p a b→l.length=m.length*5:=by
 intro m
 induction m with
 |nil=>intro l h;rcases l with _|⟨a,_|⟨b,_|⟨c,_|⟨d,_|⟨e,l⟩⟩⟩⟩⟩<;>first|rfl|exact h.elim
 |cons x m I =>
  intro l h
  rcases l with _|⟨a,_|⟨b,_|⟨c,_|⟨d,_|⟨e,l⟩⟩⟩⟩⟩<;>first|exact h.elim|skip
  have:=I h.2
  simp only[bI]
  omega
def fc (cR:Nat)(m:List Fm): aS:=xs fun cs:List V=>star [pt cR (.cells (m.length*5) cs false),tS cs m]
abbrev Hf (v:V)(m:List (Int×Int)): aS:=jc (fun v x=>.pu (v=.int .i64 x)) v m
abbrev CH (v:V)(m:List (Int×(Nat×Bool))): aS:=jc (fun v x=>.pu (v=.agg [.int .u64 (x.1:Int),.bool x.2])) v m
def qo (p q cR n:Nat)(wh di:V)(hand:Nat): List V:=[.ptr p 0,.ptr q 0,.sl cR 0 n (.exact n),wh,di,.int .i64 (hand:Int)]
def cq (r p q:Nat)(π:Pl): aS:=xs fun cR:Nat=>xs fun wh:V=>xs fun di:V =>
 star [pt r (.cells 6 (qo p q cR π.aj.length wh di π.hand) false),fc cR π.aj,Hf wh π.aC,CH di π.aN]
section
variable {p:Nat} {v:V}
theorem dx : Sat h (cq r p q π::S)↔∃cR wh di,Sat h (pt r (.cells 6 (qo p q cR π.aj.length wh di π.hand) false)::fc cR π.aj::Hf wh π.aC::CH di π.aN::S):=by
 simp only[cq,fU,ej,iU,eE]
theorem ki : Sat h (fc cR m::S)↔∃cs,Sat h (pt cR (.cells (m.length*5) cs false)::tS cs m::S):=by
 simp only[fc,fU,ej,iU,eE]
theorem jq (s:Sat h (fc cR m::S))(hf:m[i]?=some f): ∃pre v post,pre.length=i*5∧(pre++(gA f v++post)).length=m.length*5 ∧
  Sat h (pt cR (.cells (m.length*5) (pre++(gA f v++post)) false)::tS (pre++(gA f v++post)) m::.cm v f.b::S):=by
 obtain⟨cs,s⟩:=ki.1 s
 obtain⟨a,b,q1,q2,q3⟩:=s.at (k:=1) rfl
 obtain⟨pre,v,post,e1,e2,e3,_⟩:=yy q3 hf
 have hl:=T6 q3
 subst e1
 refine⟨pre,v,post,e2,hl,?_⟩
 have s1:Sat h (tS (pre++(gA f v++post)) m::pt cR (.cells (m.length*5) (pre++(gA f v++post)) false)::S):=s.ae [1]
 have s2:=(s1.dup (aF.fm _ _)).fR (B:=.cm v f.b) fun a' b' h'=>by
  obtain⟨aaF,v',I,J,tR,U,_⟩:=yy h' hf
  have:=Dw J (by omega)
  obtain⟨_,h5⟩:=this
  have h6:=kO (fun l=>l[1]?) h5
  simp[gA] at h6
  subst h6
  exact U
 exact s2.ae [2,1,0]
theorem gJ {f':Fm}{v':V}{pre:List V}(s:Sat h (pt cR (.cells n (pre++(gA f' v'++post)) false)::tS (pre++(gA f v++post)) m::.cm v' f'.b::S))(hn:n=m.length*5)(hf:m[i]?=some f)(hp:pre.length=i*5): Sat h (fc cR (m.set i f')::S):=by
 subst hn
 have s1:Sat h (tS (pre++(gA f v++post)) m::.cm v' f'.b::pt cR (.cells (m.length*5) (pre++(gA f' v'++post)) false)::S):=s.ae [1,1,0]
 have s2:=s1.two (C:=tS (pre++(gA f' v'++post)) (m.set i f')) (aF.fm _ _) (aF.cm _ _) fun a b h1 h2=>by
  obtain⟨aaF,v0,I,J,tR,e3',U⟩:=yy h1 hf
  obtain⟨h3,h4⟩:=Dw J (by omega)
  subst h3
  have h5:post=I:=by
   have:=Dw h4 (by simp[gA])
   exact this.2
  subst h5
  exact U f' v' a b h2 (PM.le_refl _) (PM.le_refl _)
 refine ki.2 ⟨pre++(gA f' v'++post),?_⟩
 rw[ep]
 exact s2.ae [1]
theorem iZ {pre row:List V}(U:pre.length=a)(I:nth row j=some x): nth (pre++(row++post)) (a+j)=some x:=by
 rw[gj] at I ⊢
 have J:=(List.getElem?_eq_some_iff.1 I).1
 rw[yW (by omega),show a+j-pre.length=j by omega,oW J,I]
theorem T7 {pre row:List V}(J:pre.length=a)(I:j<row.length): (pre++(row++post)).set (a+j) x=pre++(row.set j x++post):=by
 rw[List.set_append_right _ _ (by omega),show a+j-pre.length=j by omega,List.set_append_left _ _ I]
theorem Sat.stM {pre row:List V}(s:Sat h S)(U:getA S k=some (pt id (.cells n (pre++(row++post)) false)))(hs:bB P t=some 1)(hp:pre.length=a)(J:(pre++(row++post)).length=n)(hj:j<row.length)(hv:x.cells=[x])(I:storable x=true):
  ∃h₁,ic P h t (.ptr id (a+j)) x=some h₁∧Sat h₁ (setA S k (pt id (.cells n (pre++(row.set j x++post)) false))):=by
 have:=s.dV (P:=P) (t:=t) (off:=a+j) (v:=x) U hs J (by rw[←J];simp;omega) hv I
 rwa [T7 hp hj] at this
theorem Sat.SJ {pre row row':List V}(s:Sat h S)(U:getA S k=some (pt id (.cells n (pre++(row++post)) false)))(hs:bB P t=some row'.length)(hp:pre.length=a)(J:(pre++(row++post)).length=n)(hr:row'.length=row.length)(I:row'.all storable=true):
  ∃h₁,ic P h t (.ptr id a) (.agg row')=some h₁∧Sat h₁ (setA S k (pt id (.cells n (pre++(row'++post)) false))):=by
 have:=s.stN (P:=P) (t:=t) (off:=a) (l:=row') U hs J (by rw[←J];simp;omega) I
 have e:(pre++(row++post)).take a++(row'++(pre++(row++post)).drop (a+row'.length))=pre++(row'++post):=by
  rw[lQ hp,zD,kL (by omega),eE,show a+row'.length-pre.length=row.length by omega,vk rfl]
 rwa [e] at this
theorem ldF {pre row:List V}(s:Sat h S)(J:getA S k=some (pt id (.cells n (pre++(row++post)) false)))(U:isAggT P t=some true)(hs:bB P t=some row.length)(hp:pre.length=a)(I:(pre++(row++post)).length=n): loadV P h t (.ptr id a)=some (.agg row):=by
 rw[SB U hs (s.row J) I (by rw[←I];simp;omega),vk hp,lQ rfl]
end
abbrev bA := Pl×LD
variable {ε:bA}
def l_ (π:Pl)(n:Int): Nat:=match lookL n π.aN with
 |some x=>x.1
 |none=>0
def outF (ε:bA)(i:Nat): Int×bA:=match ε.1.aj[i]? with
 |none=>(0,ε)
 |some f=>if f.aO<0∨f.changed=false then(0,ε) else if bR f.b=false then(4,ε) else
  if (aK ε.2 (dU f.b 4 8)).1≠0 then((aK ε.2 (dU f.b 4 8)).1,(ε.1,(aK ε.2 (dU f.b 4 8)).2)) else
  if ((aK ε.2 (dU f.b 4 8)).2.2.a_ f.aO f.b).1≠0 then(((aK ε.2 (dU f.b 4 8)).2.2.a_ f.aO f.b).1,(ε.1,((aK ε.2 (dU f.b 4 8)).2.1,((aK ε.2 (dU f.b 4 8)).2.2.a_ f.aO f.b).2))) else
  (0,({ ε.1 with aj:=ε.1.aj.set i { f with changed:=false },aN:=cY f.aO (l_ ε.1 f.aO,false) ε.1.aN },((aK ε.2 (dU f.b 4 8)).2.1,((aK ε.2 (dU f.b 4 8)).2.2.a_ f.aO f.b).2)))
section
variable {told:dI} {p:Nat} {v:V}
theorem N9 (hT:W told)(s:Sat h (pt r (.cells 6 (qo p q cR π.aj.length wh di π.hand) false)::fc cR π.aj::Hf wh π.aC::CH di π.aN::bh q p μ::aD p δ::S))(hi:π.aj[i]?=some f)(L0:μ.Ok)(Bj:δ.Ok)(qd:f.b.length<1073741824)(hw:δ.waiting.length≤268435456):
  Call ⟨Tryz.prog,told⟩ 166 [.ptr r 0,.ptr cR (i*5)] h fun v h'=>v=.int .i64 (outF (π,μ,δ) i).1 ∧
   Sat h' (pt r (.cells 6 (qo p q cR (outF (π,μ,δ) i).2.1.aj.length wh di (outF (π,μ,δ) i).2.1.hand) false)::fc cR (outF (π,μ,δ) i).2.1.aj::Hf wh (outF (π,μ,δ) i).2.1.aC::CH di (outF (π,μ,δ) i).2.1.aN::bh q p (outF (π,μ,δ) i).2.2.1::aD p (outF (π,μ,δ) i).2.2.2::S):=by
 have ZI:=s
 obtain⟨pre,fv,post,I,hlen,s⟩:=jq (s.ae [1]) hi
 have hfv:=(s.aL (k:=2) rfl (cI _ _))
 refine Call.of_wp (hT.free _ rfl) Tryz.func166 rfl rfl (zK 9 rfl (zf rfl (pN _ _) (zl rfl (s.ld (k:=0) rfl dy (iZ I rfl)) ?_)))
 refine zd rfl (aJ rfl rfl bq) ?_ ?_
 ·intro hq
  have hq:f.aO<0:=by simpa using hq
  have he:outF (π,μ,δ) i=(0,(π,μ,δ)):=by simp only[outF,hi];rw[aE (.inl hq)]
  rw[he]
  exact zk 13 rfl (WP.ret ⟨aa,_,rfl,rfl,ZI⟩)
 ·intro hq
  have hq:¬ f.aO<0:=by simpa using hq
  refine zk 3 rfl (zf rfl (D1 _ _) (zl rfl (s.ld (k:=0) rfl jQ (iZ I rfl)) ?_))
  have ER:f.changed=false∨f.changed=true:=by cases f.changed<;>simp
  rcases ER with hc|hc
  ·have he:outF (π,μ,δ) i=(0,(π,μ,δ)):=by simp only[outF,hi];rw[aE (.inr hc)]
   rw[he]
   refine zt rfl (dQ rfl rfl) (by rw[hc];rfl) ?_
   exact zk 7 rfl (WP.ret ⟨aa,_,rfl,rfl,ZI⟩)
  ·have he:outF (π,μ,δ) i=(if bR f.b=false then(4,(π,μ,δ)) else
    if (aK (μ,δ) (dU f.b 4 8)).1≠0 then((aK (μ,δ) (dU f.b 4 8)).1,(π,(aK (μ,δ) (dU f.b 4 8)).2)) else
    if ((aK (μ,δ) (dU f.b 4 8)).2.2.a_ f.aO f.b).1≠0 then(((aK (μ,δ) (dU f.b 4 8)).2.2.a_ f.aO f.b).1,(π,((aK (μ,δ) (dU f.b 4 8)).2.1,((aK (μ,δ) (dU f.b 4 8)).2.2.a_ f.aO f.b).2))) else
    (0,({ π with aj:=π.aj.set i { f with changed:=false },aN:=cY f.aO (l_ π f.aO,false) π.aN },((aK (μ,δ) (dU f.b 4 8)).2.1,((aK (μ,δ) (dU f.b 4 8)).2.2.a_ f.aO f.b).2)))):=by
    simp only[outF,hi];rw[ah (by rw[hc];simp;omega)]
   rw[he]
   refine zh rfl (dQ rfl rfl) (by rw[hc];rfl) ?_
   refine zk 8 rfl (zf rfl (Ai _ _) (zl rfl (s.ld (k:=0) rfl bL (iZ I rfl)) (zc rfl (T2 hT (s.ae [2]) (cI _ _) (by omega)) ?_)))
   rintro w h ⟨s,(⟨hg,rfl⟩|⟨hg,rfl⟩)⟩
   ·dsimp only[bringA,getA,aQ] at s
    rw[ah (by rw[hg];decide)]
    have Qt:(aK (μ,δ) (dU f.b 4 8)).2.2.Ok:=mH Bj
    have Wl:(aK (μ,δ) (dU f.b 4 8)).2.2.waiting.length≤268435456:=by rw[nB];exact hw
    have J:=D8 (n:=dU f.b 4 8) hT (s.ae [6,6]) L0 Bj.aA
    generalize aK (μ,δ) (dU f.b 4 8)=x at J Qt Wl ⊢
    obtain⟨xe,xl,xd⟩:=x
    dsimp only at J Qt Wl ⊢
    refine zk 16 rfl (zC rfl aX (rfl) (zk 8 rfl (zY s 3 TN nA rfl (zm rfl (zc rfl (J) ?_)))))
    rintro w h ⟨rfl,s⟩
    refine zk 5 rfl ?_
    by_cases hx:xe=0
    ·subst hx
     rw[ah (by decide)]
     refine zC rfl aX (rfl) ?_
     have tK:=fun(s:Sat h (aD p xd::.cm fv f.b::bh q p xl::pt cR (.cells (π.aj.length*5) (pre++(gA f fv++post)) false)::tS (pre++(gA f fv++post)) π.aj::pt r (.cells 6 (qo p q cR π.aj.length wh di π.hand) false)::Hf wh π.aC::CH di π.aN::S))=>Kp (n:=f.aO) hT s (cI fv f.b) qd Qt.aA Wl
     generalize xd.a_ f.aO f.b=y at tK ⊢
     obtain⟨ye,yd⟩:=y
     dsimp only at tK ⊢
     have s:=s.ae [1,1,0]
     refine zk 5 rfl (WP.drawn [af,af,af,af,af,af,af,af,af,af,af,af,af,af] rfl (by kernel_rfl) (by kernel_rfl) ?_)
     refine zM rfl (zN rfl (zF rfl (vJ _ _) (zL rfl (s.ld (k:=5) rfl jK rfl) (zM rfl (zN rfl (zF rfl (pN _ _) (zL rfl (s.ld (k:=3) rfl dy (iZ I rfl)) (zM rfl (zN rfl (zF rfl (Ai _ _) (zL rfl (s.ld (k:=3) rfl bL (iZ I rfl)) (au.any rfl rfl rfl rfl (OpR.call rfl rfl rfl rfl (tK s)) ?_))))))))))))
     rintro w h ⟨rfl,s⟩
     refine zA rfl ?_
     refine au.nil ⟨⟨aa,aa,aa,aa,aa,aa,aa,aa,aa,aa,aa,aa,aa,aa,aa⟩,?_⟩
     refine zK 3 rfl ?_
     by_cases hy:ye=0
     ·subst hy
      rw[ah (by decide)]
      refine zC rfl aX (rfl) (zk 7 rfl (zf rfl (D1 _ _) (zS rfl (s.stM (k:=3) (j:=4) rfl xw I hlen (by simp[gA]) rfl rfl) ?_)))
      intro h s
      have e5:(gA f fv).set 4 (.bool false)=gA { f with changed:=false } fv:=rfl
      rw[e5] at s
      have s:=s.ae [7,3,4]
      refine zk 2 rfl (WP.drawn [af,af,af,af,af,af,af,af,af,af,af,af,af,af,af,af,af,af,af,af] rfl (by kernel_rfl) (by kernel_rfl) ?_)
      refine zM rfl (zN rfl (zF rfl (mX _ _) (zL rfl (s.ld (k:=2) rfl rF rfl) (zM rfl (zN rfl (zF rfl (pN _ _) (zL rfl (s.ld (k:=1) rfl dy (iZ I rfl)) (zM rfl (zN rfl (zF rfl (mX _ _) (zL rfl (s.ld (k:=2) rfl rF rfl) (zM rfl (zN rfl (zF rfl (pN _ _) (zL rfl (s.ld (k:=1) rfl dy (iZ I rfl)) ?_)))))))))))))))
      have U:∃b,fC Tryz.prog h 215 di (.int .i64 f.aO) false=some (.agg [.int .u64 (l_ π f.aO:Nat),.bool b]):=by
       rcases mw (f:=fun v (x:Nat×Bool)=>.pu (v=.agg [.int .u64 (x.1:Int),.bool x.2])) (n:=f.aO) (fun _ _=>aF.pu _) s rP bK wE with⟨g1,_,g3⟩|⟨u,x,g1,_,g3,s'⟩
       ·exact⟨false,by rw[g3];simp only[l_,g1];rfl⟩
       ·obtain⟨rfl,_⟩:=eP.1 s'
        exact⟨x.2,by rw[g3];simp only[l_,g1]⟩
      obtain⟨lb,U⟩:=U
      refine zO rfl (gX rfl rfl U) (zO rfl (Sj rfl (Sk (Ke _) rfl)) (zO rfl (dn rfl (by rw[X_];rfl)) ?_))
      refine au.ik rfl rfl rfl (OpR.mapUpdate rfl rfl rfl rfl (oQ (f:=fun v (x:Nat×Bool)=>.pu (v=.agg [.int .u64 (x.1:Int),.bool x.2])) (x:=(l_ π f.aO,false)) (fun _ _=>aF.pu _) (s.gB rfl) rP bK)) ?_
      intro w h s
      refine au.nil ⟨⟨aa,aa,aa,aa,aa,aa,aa,aa,aa,aa,aa,aa,aa,aa,aa,aa,aa,aa,aa,aa,aa⟩,?_⟩
      refine zK 4 rfl (WP.ret ⟨aa,_,rfl,?_⟩)
      refine⟨rfl,?_⟩
      have s:=gJ (i:=i) (f':={ f with changed:=false }) (s.ae [1,5,3]) rfl hi I
      have e6:(π.aj.set i { f with changed:=false }).length=π.aj.length:=ep
      rw[e6]
      exact s.ae [2,0,3,0,1,0]
     ·rw[aE hy]
      refine zB rfl aX (by simp;exact hy) ?_
      refine zk 7 rfl (WP.ret ⟨aa,_,rfl,?_⟩)
      refine⟨rfl,?_⟩
      have s:=ki.2 ⟨_,s.ae [3,3]⟩
      exact(s.del 2).ae [3,0,2,2,1,0]
    ·rw[aE hx]
     refine zB rfl aX (by simp;exact hx) ?_
     refine zk 7 rfl (WP.ret ⟨aa,_,rfl,?_⟩)
     refine⟨rfl,?_⟩
     have s:=ki.2 ⟨_,s.ae [3,3]⟩
     exact(s.del 3).ae [3,0,2,2,0,0]
   ·dsimp only[bringA,getA,aQ] at s
    rw[aE hg]
    refine zk 16 rfl (zB rfl aX (rfl) (zk 7 rfl (WP.ret ⟨aa,_,rfl,?_⟩)))
    refine⟨rfl,?_⟩
    have s:=ki.2 ⟨_,s.ae [1,1]⟩
    exact(s.del 1).ae [1,0]
end
structure fK (π bC:Pl): Prop where
 aC:bC.aC=π.aC
 aN:bC.aN=π.aN
 len:bC.aj.length=π.aj.length
 get:∀(i:Nat) (f:Fm),π.aj[i]?=some f→∃t,bC.aj[i]?=some { f with fQ:=t }
theorem fK.refl (π:Pl): fK π π:=⟨rfl,rfl,rfl,fun _ f h=>⟨f.fQ,h⟩⟩
theorem fK.trans {bC I:Pl}(a:fK π bC)(b:fK bC I): fK π I:=by
 refine⟨b.aC.trans a.aC,b.aN.trans a.aN,b.len.trans a.len,fun i f h => ?_⟩
 obtain⟨t,U⟩:=a.get i f h
 obtain⟨t',J⟩:=b.get i _ U
 exact⟨t',J⟩
theorem fK.hand : fK π { π with hand:=n }:=⟨rfl,rfl,rfl,fun _ f h=>⟨f.fQ,h⟩⟩
theorem fK.T8 (hi:π.aj[i]?=some f): fK π { π with aj:=π.aj.set i { f with fQ:=false } }:=by
 refine⟨rfl,rfl,ep,fun j g I => ?_⟩
 by_cases h:i=j
 ·subst h
  rw[hi] at I
  have:=cA I
  subst this
  have J:=(List.getElem?_eq_some_iff.1 hi).1
  exact⟨false,by simp[Dq,J]⟩
 ·exact⟨g.fQ,by simp only[Dq,ah h];exact I⟩
theorem Qu {x:Operand}{b:Nat}(I:0<b): binV P h .rem t x y (.int .i64 (a:Int)) (.int .i64 (b:Int))=some (.int .i64 ((a%b:Nat):Int)):=by
 simp only[binV,ikBeq,ak,intV]
 have:intBeq (b:Int) 0=false:=by rw[nY];simp;omega
 rw[this,bf,Int.tmod_eq_emod_of_nonneg (by omega)]
 rfl
section
variable {told:dI} {p:Nat} {v:V}
theorem mI (hi:i<n): indexAddrV Tryz.prog 214 (.sl cR 0 n (.exact n)) (.int .i64 (i:Int))=some (.ptr cR (i*5)):=by
 rw[X8,show(decide ((0:Int)≤(i:Int))&&decide ((i:Int)<(n:Int)))=true by simp;omega,ak]
 simp
theorem I6 (I:W told)(s:Sat h S)(J:storable v=true): Call ⟨Tryz.prog,told⟩ 214 [.agg (gA f v)] h fun w h'=>w=.bool (decide (f.pins=0))∧Sat h' S:=by
 refine Call.of_wp (I.free _ rfl) Tryz.func214 rfl rfl (zg rfl (ay.cV s rfl rfl rfl (gP rfl (by simp only[V.cells,gA,jB,jC,J];rfl)) ?_))
 intro p1 h s
 dsimp only[V.cells,gA] at s
 exact zk 4 rfl (zY s 0 qW dy rfl (zb rfl bZ (zk 2 rfl (WP.ret ⟨aa,_,rfl,rfl,s.drop⟩))))
theorem Qv (U:W told)(s:Sat h (fc cR m::S))(h0:m[0]?=some f)(hp:f.pins=0): Call ⟨Tryz.prog,told⟩ 237 [.sl cR 0 m.length (.exact m.length),.fn (.func 214) [] []] h fun w h'=>w=.int .i64 0∧Sat h' (fc cR m::S):=by
 have hl:=(List.getElem?_eq_some_iff.1 h0).1
 obtain⟨pre,fv,post,I,hlen,s⟩:=jq s h0
 have J:=(s.aL (k:=2) rfl (cI _ _)).cells.2
 refine Call.of_wp (U.free _ rfl) Tryz.func237 rfl rfl (zK 8 rfl (zo rfl (aY rfl rfl rfl (pQ rfl yt)) (zk 2 rfl (WP.block (WP.loop (zg rfl (zB rfl bq (by simp;omega) ?_)))))))
 refine zk 5 rfl (WP.block (zK 10 rfl (zo rfl (dD rfl rfl (mI (i:=0) hl)) (zl rfl (ldF s (k:=0) rfl Yb Cn I hlen) (zc rfl (I6 U s J) ?_)))))
 rintro w h ⟨rfl,s⟩
 rw[er hp]
 exact zk 7 rfl (WP.ret ⟨aa,_,rfl,rfl,(ki.2 ⟨_,s⟩).del 1⟩)
theorem I7 (I:W told)(s:Sat h (fc cR m::S))(J:m[0]?=some f)(U:f.pins=0): Call ⟨Tryz.prog,told⟩ 213 [.sl cR 0 m.length (.exact m.length),.fn (.func 214) [] []] h fun w h'=>w=.bool true∧Sat h' (fc cR m::S):=by
 refine Call.of_wp (I.free _ rfl) Tryz.func213 rfl rfl (zK 8 rfl (zc rfl (Qv I s J U) ?_))
 rintro w h ⟨rfl,s⟩
 refine zB rfl kK (by decide) ?_
 exact zk 2 rfl (WP.ret ⟨aa,_,rfl,rfl,s⟩)
noncomputable def fdA : Code:=cC [1,0,0,1,0,0] ((Tryz.f165.body).getD .skip)
noncomputable def Wm : Code:=cC [1,0,1,1,1,0,0] ((Tryz.f165.body).getD .skip)
theorem I8 {hand:Nat}: ∀(j i:Nat) (h:H) (E:List (Nat×V)) (Q:Ex→List (Nat×V)→H→Prop),i+j=m.length→m.length<4294967296 →
  Sat h (pt r (.cells 6 (qo p q cR m.length wh di hand) false)::fc cR m::S)→Has E [(0,.ptr r 0),(10,.int .i64 m.length),(11,.int .i64 i)] →
  (∀E' (i:Nat) (f:Fm),m[i]?=some f→f.aO<0→look E' 2=some (.int .i64 (i:Int))→Q .ret E' h) →
  (∀E',Has E' [(0,.ptr r 0)]→Q (.exit 0) E' h)→WP ⟨Tryz.prog,told⟩ 70 (.loop fdA) E h Q:=by
 intro j
 induction j with
 |zero =>
  intro i h E Q hi hm s U hr hx
  refine WP.loop (WP.has U (zg rfl (zC rfl bq (by simp;omega) ?_)))
  exact zk 3 rfl (WP.exit (hx _ ⟨rfl,aa⟩))
 |succ j ih =>
  intro i h E Q hi hm s U hr hx
  have hc:m[i]?=some (m[i]'(by omega)):=bn _
  generalize (m[i]'(by omega))=f at hc
  obtain⟨pre,fv,post,I,hlen,s'⟩:=jq (s.ae [1]) hc
  refine WP.loop (WP.has U (zg rfl (zB rfl bq (by simp;omega) ?_)))
  refine zk 5 rfl (WP.block (zK 9 rfl (zY s 0 kQ oK rfl (zm rfl (zo rfl (dD rfl rfl (mI (i:=i) (by omega))) ?_)))))
  refine zf rfl (pN _ _) (zl rfl (s'.ld (k:=0) rfl dy (iZ I rfl)) ?_)
  refine zd rfl (aJ rfl rfl bq) ?_ ?_
  ·intro J
   have J:f.aO<0:=by simpa using J
   exact zk 7 rfl (WP.ret (hr _ i f hc J rfl))
  ·intro J
   refine zv (zj rfl (WP.skip (zr rfl (zb rfl (by exact bP (aV (by omega) (by omega))) ?_))))
   refine zm rfl (zv ?_)
   exact ih (i+1) h _ Q (by omega) hm s ⟨rfl,rfl,rfl,aa⟩ hr hx
def qZ (m:List Fm): Nat:=(m.filter fun f=>f.fQ).length
theorem AR : ∀ {m:List Fm} {i:Nat},m[i]?=some f→f.fQ=true→qZ (m.set i { f with fQ:=false })+1=qZ m:=by
 intro m
 induction m with
 |nil=>intro i h;simp at h
 |cons g m J =>
  intro i h I
  cases i with
  |zero=>simp at h;subst h;simp[qZ,I]
  |succ i =>
   rw[lK] at h
   have:=J h I
   simp only[qZ,List.set_cons_succ,Du] at this ⊢
   split<;>(try simp only[bI])<;>omega
theorem CI (U:π.aj[π.hand]?=some f)(hm:π.aj.length<4294967296)(hp:f.pins=0)
 (s:Sat h (pt r (.cells 6 (qo p q cR π.aj.length wh di π.hand) false)::fc cR π.aj::S))(hE:Has E [(0,.ptr r 0)])
 (hr:f.fQ=false→∀E' h',look E' 2=some (.int .i64 (π.hand:Int))→Sat h' (pt r (.cells 6 (qo p q cR π.aj.length wh di ((π.hand+1)%π.aj.length)) false)::fc cR π.aj::S)→Q .ret E' h')
 (hx:f.fQ=true→∀E' h',Has E' [(0,.ptr r 0)]→Sat h' (pt r (.cells 6 (qo p q cR (π.aj.set π.hand { f with fQ:=false }).length wh di ((π.hand+1)%π.aj.length)) false)::fc cR (π.aj.set π.hand { f with fQ:=false })::S)→WP ⟨Tryz.prog,told⟩ 70 (.loop Wm) E' h' Q):
  WP ⟨Tryz.prog,told⟩ 70 (.loop Wm) E h Q:=by
 have hl:=(List.getElem?_eq_some_iff.1 U).1
 refine WP.loop (WP.has hE (WP.block (zK 4 rfl (zY s 0 DW dy rfl (zk 6 rfl (zY s 0 kQ oK rfl (zm rfl (zo rfl (dD rfl rfl (mI (i:=π.hand) hl)) (zk 3 rfl (WP.drawn [af,af,af,af,af,af,af,af,af,af,af,af,af,af,af] rfl (by kernel_rfl) (by kernel_rfl) ?_))))))))))
 refine zM rfl (zM rfl (zN rfl (zF rfl (DW _ _) (zL rfl (s.ld (k:=0) rfl dy rfl) (zO rfl (aJ rfl rfl (by exact bP (aV (by omega) (by omega)))) ?_)))))
 refine zM rfl (zN rfl (zF rfl (kQ _ _) (zL rfl (s.ld (k:=0) rfl oK rfl) (zO rfl (aY rfl rfl rfl (pQ rfl yt)) (zO rfl (aJ rfl rfl (Qu (a:=π.hand+1) (by omega))) ?_)))))
 refine zN rfl (zF rfl (DW _ _) (au.ik rfl rfl rfl (OpR.dg rfl rfl rfl (s.dV (k:=0) rfl jt rfl (by decide) rfl rfl)) ?_))
 rintro v h ⟨rfl,s⟩
 have s:Sat h (pt r (.cells 6 (qo p q cR π.aj.length wh di ((π.hand+1)%π.aj.length)) false)::fc cR π.aj::S):=s
 refine au.nil ⟨⟨aa,aa,aa,aa,aa,aa,aa,aa,aa,aa,aa,aa,aa,aa,aa,aa⟩,?_⟩
 obtain⟨pre,fv,post,I,hlen,s⟩:=jq (s.ae [1]) U
 refine zw (WP.block (zK 4 rfl (zf rfl (qW _ _) (zl rfl (s.ld (k:=0) rfl dy (iZ I rfl)) (zC rfl dS (by rw[hp];decide) ?_)))))
 refine zk 7 rfl (zf rfl (DZ _ _) (zl rfl (s.ld (k:=0) rfl jQ (iZ I rfl)) (zk 2 rfl ?_)))
 have Wn:f.fQ=false∨f.fQ=true:=by cases f.fQ<;>simp
 rcases Wn with J|J
 ·refine WP.Si rfl (J) ?_
  refine zK 5 rfl (WP.ret (hr J _ _ rfl ?_))
  have s:=ki.2 ⟨_,s.ae [0,0]⟩
  exact(s.del 1).ae [1,0]
 ·skip
  refine WP.LB rfl (J) (zK 3 rfl (zf rfl (DZ _ _) (zS rfl (s.stM (k:=0) (j:=3) rfl xw I hlen (by simp[gA]) rfl rfl) ?_)))
  intro h s
  have e5:(gA f fv).set 3 (.bool false)=gA { f with fQ:=false } fv:=rfl
  rw[e5] at s
  refine zv (WP.exit (hx J _ _ ⟨rfl,aa⟩ ?_))
  have s:=gJ (i:=π.hand) (f':={ f with fQ:=false }) s rfl U I
  rw[ep]
  exact s.ae [1,0]
theorem I9 : ∀(fuel:Nat) (π:Pl) (h:H) (E:List (Nat×V)) (Q:Ex→List (Nat×V)→H→Prop),qZ π.aj≤fuel→π.hand<π.aj.length→π.aj.length<4294967296→(∀f∈π.aj,f.pins=0) →
  Sat h (pt r (.cells 6 (qo p q cR π.aj.length wh di π.hand) false)::fc cR π.aj::S)→Has E [(0,.ptr r 0)] →
  (∀E' h' (i:Nat) (bC:Pl) (f:Fm),fK π bC→bC.aj[i]?=some f→bC.hand<bC.aj.length→look E' 2=some (.int .i64 (i:Int))→Sat h' (pt r (.cells 6 (qo p q cR bC.aj.length wh di bC.hand) false)::fc cR bC.aj::S)→Q .ret E' h') →
  WP ⟨Tryz.prog,told⟩ 70 (.loop Wm) E h Q:=by
 intro fuel
 induction fuel with
 |zero =>
  intro π h E Q ht J hm U s hE hr
  have I:π.aj[π.hand]?=some (π.aj[π.hand]'J):=bn _
  generalize (π.aj[π.hand]'J)=f at I
  refine CI I hm (U f (bu I)) s hE (fun h1 E' h' h2 s' => ?_) (fun h1 => ?_)
  ·exact hr E' h' π.hand { π with hand:=(π.hand+1)%π.aj.length } f fK.hand I (zQ _ (by omega)) h2 s'
  ·have:=AR I h1
   omega
 |succ fuel ih =>
  intro π h E Q ht J hm U s hE hr
  have I:π.aj[π.hand]?=some (π.aj[π.hand]'J):=bn _
  generalize (π.aj[π.hand]'J)=f at I
  refine CI I hm (U f (bu I)) s hE (fun h1 E' h' h2 s' => ?_) (fun h1 E' h' fW s' => ?_)
  ·exact hr E' h' π.hand { π with hand:=(π.hand+1)%π.aj.length } f fK.hand I (zQ _ (by omega)) h2 s'
  ·have Er:=AR I h1
   have hn:fK π { π with aj:=π.aj.set π.hand { f with fQ:=false },hand:=(π.hand+1)%π.aj.length }:=(fK.T8 I).trans fK.hand
   refine ih { π with aj:=π.aj.set π.hand { f with fQ:=false },hand:=(π.hand+1)%π.aj.length } h' E' Q (by show qZ (π.aj.set π.hand { f with fQ:=false })≤fuel;omega) ?_ (by simp only[ep];exact hm) (fun g hg => ?_) s' fW (fun E2 h2 i bC g U2 hg SK hl s2=>hr E2 h2 i bC g (hn.trans U2) hg SK hl s2)
   ·simp only[ep];exact zQ _ (by omega)
   ·rcases oX hg with hg|rfl
    ·exact U g hg
    ·exact U f (bu I)
theorem Qw (hT:W told)(s:Sat h (pt r (.cells 6 (qo p q cR π.aj.length wh di π.hand) false)::fc cR π.aj::S))(hh:π.hand<π.aj.length)(hm:π.aj.length<4294967296)(hp:∀f∈π.aj,f.pins=0):
  Call ⟨Tryz.prog,told⟩ 165 [.ptr r 0] h fun v h'=>∃(i:Nat) (bC:Pl) (f:Fm),v=.int .i64 (i:Int)∧fK π bC∧bC.aj[i]?=some f∧bC.hand<bC.aj.length ∧
   Sat h' (pt r (.cells 6 (qo p q cR bC.aj.length wh di bC.hand) false)::fc cR bC.aj::S):=by
 have I:π.aj[0]?=some (π.aj[0]'(by omega)):=bn _
 generalize (π.aj[0]'(by omega))=f0 at I
 have s0:=s
 refine Call.of_wp (hT.free _ rfl) Tryz.func165 rfl rfl (zK 4 rfl (WP.scope (zK 5 rfl (zY s 0 kQ oK rfl (zo rfl (aY rfl rfl rfl (pQ rfl yt)) (zk 2 rfl (WP.block ?_)))))))
 refine I8 π.aj.length 0 _ _ _ (by omega) hm s ⟨rfl,rfl,rfl,aa⟩ (fun E' i f J _ U => ?_) (fun E' fW => ?_)
 ·exact⟨aa,_,ny U,i,π,f,rfl,fK.refl π,J,hh,s⟩
 ·skip
  refine WP.has fW (zK 5 rfl (zY s 0 kQ oK rfl (zc rfl (I7 hT (s.ae [1]) I (hp f0 (bu I))) ?_)))
  rintro w h ⟨rfl,s⟩
  refine zo rfl (dQ rfl rfl) (zk 4 rfl (WP.label (WP.block ?_)))
  refine I9 (qZ π.aj) π _ _ _ (aP _) hh hm hp (s.ae [1,0]) ⟨rfl,aa⟩ (fun E' h' i bC f hn J SK U s' => ?_)
  exact⟨aa,_,ny U,i,bC,f,rfl,hn,J,SK,s'⟩
end
structure Pl.Ok (π:Pl): Prop where
 hand:π.hand<π.aj.length
 many:π.aj.length≤1024
 aC:∀e∈π.aC,0≤e.2∧e.2<π.aj.length
 len:∀f∈π.aj,f.b.length≤512
 pins:∀f∈π.aj,0≤f.pins∧f.pins≤4294967296
theorem Pl.Ok.at (h:π.Ok){n i:Int}(I:lookL n π.aC=some i): ∃(k:Nat) (f:Fm),i=k∧π.aj[k]?=some f:=by
 have J:=h.aC _ (fh I)
 exact⟨i.toNat,π.aj[i.toNat]'(by omega),by omega,bn _⟩
def heldI (π:Pl)(n:Int): Option Nat:=match lookL n π.aC with
 |none=>none
 |some i=>match π.aj[i.toNat]? with
  |none=>none
  |some f=>if f.pins=0 then none else some i.toNat
def unpinF (π:Pl)(n:Int): Int×Pl:=match heldI π n with
 |none=>(18,π)
 |some i=>match π.aj[i]? with
  |none=>(18,π)
  |some f=>(0,{ π with aj:=π.aj.set i { f with pins:=f.pins-1 } })
def dirtOf (π:Pl)(n:Int)(aM:Nat): Nat:=match lookL n π.aN with
 |some x=>x.1
 |none=>aM
def lz (π:Pl)(n:Int)(b:List Nat)(aM:Nat): Int×Pl:=match heldI π n with
 |none=>(18,π)
 |some i=>match π.aj[i]? with
  |none=>(18,π)
  |some f=>if bR b=false then(4,π) else(0,{ π with aj:=π.aj.set i { f with b:=cP b aM,changed:=true },aN:=cY n (dirtOf π n aM,true) π.aN })
def dP (ε:bA)(n:Int): Int×bA:=match lookL n ε.1.aC with
 |none=>(18,ε)
 |some i=>outF ε i.toNat
section
variable {told:dI} {p:Nat} {v:V}
theorem D9 {n:Int}{j:Nat}(s:Sat h (Hf wh π.aC::S)): (lookL n π.aC=none∧fC Tryz.prog h 213 wh (.int .i64 n) true=some (.bD [.int .i64 0,.bool false])) ∨
  ∃i,lookL n π.aC=some i∧fC Tryz.prog h 213 wh (.int .i64 n) true=some (.bD [.int .i64 i,.bool true]):=by
 grind[mw,aF.pu,Tryz.underlying213,Tryz.underlying3,EN,eP]
theorem D_ {n:Int}(s:Sat h (CH di π.aN::S)): (lookL n π.aN=none∧fC Tryz.prog h 215 di (.int .i64 n) true=some (.bD [.agg [.int .u64 0,.bool false],.bool false])∧fC Tryz.prog h 215 di (.int .i64 n) false=some (.agg [.int .u64 0,.bool false])) ∨
  ∃x,lookL n π.aN=some x∧fC Tryz.prog h 215 di (.int .i64 n) true=some (.bD [.agg [.int .u64 (x.1:Int),.bool x.2],.bool true])∧fC Tryz.prog h 215 di (.int .i64 n) false=some (.agg [.int .u64 (x.1:Int),.bool x.2]):=by
 grind[mw,aF.pu,Tryz.underlying215,Tryz.underlying3,wE,eP]
theorem Kq (hT:W told){n:Int}(s:Sat h (pt r (.cells 6 (qo p q cR π.aj.length wh di π.hand) false)::fc cR π.aj::Hf wh π.aC::S))(J:π.Ok):
  Call ⟨Tryz.prog,told⟩ 168 [.ptr r 0,.int .i64 n] h fun v h'=>h'=h∧((heldI π n=none∧v=.bD [.cH,.int .i64 18])∨∃(i:Nat) (f:Fm),heldI π n=some i∧π.aj[i]?=some f∧v=.bD [.ptr cR (i*5),.int .i64 0]):=by
 refine Call.of_wp (hT.free _ rfl) Tryz.func168 rfl rfl (zK 9 rfl (zY s 0 qV wD rfl (zm rfl ?_)))
 rcases D9 (n:=n) (j:=0) (s.ae [2]) with⟨U,g2⟩|⟨i,U,g2⟩
 ·refine ay.op rfl rfl rfl (gX rfl rfl g2) ?_
  exact zk 10 rfl (zt rfl (dQ rfl rfl) (rfl) (zk 18 rfl (WP.ret ⟨aa,_,rfl,rfl,.inl ⟨by simp only[heldI,U],rfl⟩⟩)))
 ·obtain⟨i,f,rfl,hf⟩:=J.at U
  have hl:=(List.getElem?_eq_some_iff.1 hf).1
  have hh:heldI π n=if f.pins=0 then none else some i:=by grind[heldI]
  obtain⟨pre,fv,post,I,hlen,s'⟩:=jq (s.ae [1]) hf
  refine zo rfl (gX rfl rfl g2) (zk 10 rfl (zh rfl (dQ rfl rfl) (rfl) (zk 3 rfl (zY s 0 kQ oK rfl (zm rfl (zo rfl (dD rfl rfl (mI (i:=i) hl)) (zf rfl (qW _ _) (zl rfl (s'.ld (k:=0) rfl dy (iZ I rfl)) ?_))))))))
  refine zd rfl (aJ rfl rfl bZ) ?_ ?_
  ·intro hq
   have hq:f.pins=0:=by grind
   exact zk 8 rfl (WP.ret ⟨aa,_,rfl,rfl,.inl ⟨by grind,rfl⟩⟩)
  ·intro hq
   have hq:f.pins≠0:=by grind
   exact zk 8 rfl (zY s 0 kQ oK rfl (zm rfl (zo rfl (dD rfl rfl (mI (i:=i) hl)) (zk 3 rfl (WP.ret ⟨aa,_,rfl,rfl,.inr ⟨i,f,by grind,hf,rfl⟩⟩)))))
theorem Hg (hT:W told){n:Int}(s:Sat h (cq r p q π::S))(J:π.Ok):
  Call ⟨Tryz.prog,told⟩ 95 [.ptr r 0,.int .i64 n] h fun v h'=>v=.int .i64 (unpinF π n).1∧Sat h' (cq r p q (unpinF π n).2::S):=by
 have s0:=s
 obtain⟨cR,wh,di,s⟩:=dx.1 s
 refine Call.of_wp (hT.free _ rfl) Tryz.func95 rfl rfl (zK 8 rfl (zc rfl (Kq (n:=n) hT s J) ?_))
 rintro v h' ⟨rfl,(⟨hh,rfl⟩|⟨i,f,hh,U,rfl⟩)⟩
 ·have he:unpinF π n=(18,π):=by simp only[unpinF,hh]
  rw[he]
  exact zk 10 rfl (zB rfl aX (rfl) (zk 7 rfl (WP.ret ⟨aa,_,rfl,rfl,s0⟩)))
 ·have he:unpinF π n=(0,{ π with aj:=π.aj.set i { f with pins:=f.pins-1 } }):=by simp only[unpinF,hh,U]
  rw[he]
  obtain⟨pre,fv,post,I,hlen,s⟩:=jq (s.ae [1]) U
  have Qx:=J.pins f (bu U)
  refine zk 10 rfl (zC rfl aX (rfl) (zk 7 rfl (zf rfl (qW _ _) (zl rfl (s.ld (k:=0) rfl dy (iZ I rfl)) (zb rfl (by exact jV (aV (by omega) (by omega))) ?_)))))
  refine zn rfl (zf rfl (qW _ _) (zS rfl (s.stM (k:=0) (j:=2) rfl jt I hlen (by simp[gA]) rfl rfl) ?_))
  intro h s
  have e5:(gA f fv).set 2 (.int .i64 (f.pins-1))=gA { f with pins:=f.pins-1 } fv:=rfl
  rw[e5] at s
  refine zk 5 rfl (WP.ret ⟨aa,_,rfl,?_⟩)
  refine⟨rfl,dx.2 ⟨cR,wh,di,?_⟩⟩
  have s:=gJ (i:=i) (f':={ f with pins:=f.pins-1 }) s rfl U I
  rw[ep]
  exact s.ae [1,0]
theorem T9 (U:W told){n:Int}(s:Sat h (cq r p q π::X::S))(hX:cX X (dc bv b))(Qy:π.Ok)(hb:b.length<9223372036854775808):
  Call ⟨Tryz.prog,told⟩ 108 [.ptr r 0,.int .i64 n,bv,.int .u64 (aM:Int)] h fun v h'=>v=.int .i64 (lz π n b aM).1∧Sat h' (cq r p q (lz π n b aM).2::X::S):=by
 have s0:=s
 obtain⟨cR,wh,di,s⟩:=dx.1 s
 refine Call.of_wp (U.free _ rfl) Tryz.func108 rfl rfl (zK 8 rfl (zc rfl (Kq (n:=n) U s Qy) ?_))
 rintro v h' ⟨rfl,(⟨hh,rfl⟩|⟨i,f,hh,hf,rfl⟩)⟩
 ·have he:lz π n b aM=(18,π):=by simp only[lz,hh]
  rw[he]
  exact zk 10 rfl (zB rfl aX (rfl) (zk 7 rfl (WP.ret ⟨aa,_,rfl,rfl,s0⟩)))
 ·have he:lz π n b aM=(if bR b=false then(4,π) else(0,{ π with aj:=π.aj.set i { f with b:=cP b aM,changed:=true },aN:=cY n (dirtOf π n aM,true) π.aN })):=by simp only[lz,hh,hf]
  rw[he]
  refine zk 10 rfl (zC rfl aX (rfl) (zk 7 rfl (zc rfl (Kn (n:=aM) U (s.ae [4]) hX hb) ?_)))
  rintro v h (⟨hg,u,rfl,s⟩|⟨hg,rfl,s⟩)
  ·rw[ah (by grind)]
   have hul:(cP b aM).length=512:=by
    grind[wJ,fb,cP,jm,dX]
   obtain⟨J,_,cap,_,rfl,_⟩:=s.kq (by omega)
   have s:=s.fO
   obtain⟨pre,fv,post,I,hlen,s⟩:=jq (s.ae [3]) hf
   refine zk 10 rfl (zC rfl aX (rfl) (zk 9 rfl (zf rfl (Ai _ _) (zS rfl (s.stM (k:=0) (j:=1) rfl ju I hlen (by simp[gA]) rfl rfl) ?_))))
   intro h s
   refine zn rfl (zf rfl (D1 _ _) (zS rfl (s.stM (k:=0) (j:=4) rfl xw I (by grind) (by simp[gA]) rfl rfl) ?_))
   intro h s
   have e5:((gA f fv).set 1 (.sl J 0 (cP b aM).length cap)).set 4 (.bool true)=gA { f with b:=cP b aM,changed:=true } (.sl J 0 (cP b aM).length cap):=rfl
   rw[e5] at s
   have s:=gJ (i:=i) (f':={ f with b:=cP b aM,changed:=true }) (s.ae [0,0,1]) rfl hf I
   have s:=s.ae [3,4,0]
   refine zk 5 rfl (zY s 0 mX rF rfl (zm rfl ?_))
   rcases D_ (n:=n) (s.ae [1]) with⟨g1,g2,_⟩|⟨x,g1,g2,_⟩
   ·refine ay.op rfl rfl rfl (gX rfl rfl g2) ?_
    refine zk 3 rfl ?_
    refine ay.cV s rfl rfl rfl (cK wE) (fun Wo h s => ?_)
    refine zS rfl (s.iq (j:=0) rfl uq rfl rfl) (fun h s => ?_)
    refine zk 6 rfl (zo rfl (dQ rfl rfl) (zk 4 rfl (zf rfl (DX _ _) ?_)))
    refine zS rfl (by exact s.dV (k:=0) rfl ot rfl (by decide) rfl rfl) (fun h s => ?_)
    refine zk 3 rfl (zf rfl (DY _ _) ?_)
    refine zS rfl (by exact s.dV (k:=0) rfl xw rfl (by decide) rfl rfl) (fun h s => ?_)
    refine zk 2 rfl (WP.drawn [af,af,af,af,af,af,af] rfl (by kernel_rfl) (by kernel_rfl) ?_)
    refine zM rfl (zN rfl (zF rfl (mX _ _) (zL rfl (s.ld (k:=1) rfl rF rfl) (zM rfl (zL rfl (s.fN (k:=0) rfl LI uq) (au.ik rfl rfl rfl (OpR.mapUpdate rfl rfl rfl rfl (oQ (f:=fun v (x:Nat×Bool)=>.pu (v=.agg [.int .u64 (x.1:Int),.bool x.2])) (x:=(aM,true)) (fun _ _=>aF.pu _) ((s.ae [2]).gB rfl) rP bK)) ?_))))))
    intro w h s
    refine au.nil ⟨⟨aa,aa,aa,aa,aa,aa,aa,aa⟩,?_⟩
    refine zK 4 rfl (WP.ret ⟨aa,_,rfl,?_⟩)
    have ed:dirtOf π n aM=aM:=by simp only[dirtOf,g1]
    rw[ed]
    refine⟨rfl,dx.2 ⟨cR,wh,di,?_⟩⟩
    have e6:(π.aj.set i { f with b:=cP b aM,changed:=true }).length=π.aj.length:=ep
    show Sat h (pt r (.cells 6 (qo p q cR (π.aj.set i { f with b:=cP b aM,changed:=true }).length wh di π.hand) false)::_)
    rw[e6]
    exact((s.ae [2,2,4,0,2]).del 6).del 5
   ·skip
    refine zo rfl (gX rfl rfl g2) (zk 3 rfl ?_)
    refine ay.cV s rfl rfl rfl (cK wE) (fun Wo h s => ?_)
    refine zS rfl (s.iq (j:=0) rfl uq rfl rfl) (fun h s => ?_)
    refine zk 6 rfl (zo rfl (dQ rfl rfl) (zk 5 rfl (zf rfl (DY _ _) ?_)))
    refine zS rfl (by exact s.dV (k:=0) rfl xw rfl (by decide) rfl rfl) (fun h s => ?_)
    refine zk 2 rfl (WP.drawn [af,af,af,af,af,af,af] rfl (by kernel_rfl) (by kernel_rfl) ?_)
    refine zM rfl (zN rfl (zF rfl (mX _ _) (zL rfl (s.ld (k:=1) rfl rF rfl) (zM rfl (zL rfl (s.fN (k:=0) rfl LI uq) (au.ik rfl rfl rfl (OpR.mapUpdate rfl rfl rfl rfl (oQ (f:=fun v (x:Nat×Bool)=>.pu (v=.agg [.int .u64 (x.1:Int),.bool x.2])) (x:=(x.1,true)) (fun _ _=>aF.pu _) ((s.ae [2]).gB rfl) rP bK)) ?_))))))
    intro w h s
    refine au.nil ⟨⟨aa,aa,aa,aa,aa,aa,aa,aa⟩,?_⟩
    refine zK 4 rfl (WP.ret ⟨aa,_,rfl,?_⟩)
    have ed:dirtOf π n aM=x.1:=by simp only[dirtOf,g1]
    rw[ed]
    refine⟨rfl,dx.2 ⟨cR,wh,di,?_⟩⟩
    have e6:(π.aj.set i { f with b:=cP b aM,changed:=true }).length=π.aj.length:=ep
    show Sat h (pt r (.cells 6 (qo p q cR (π.aj.set i { f with b:=cP b aM,changed:=true }).length wh di π.hand) false)::_)
    rw[e6]
    exact((s.ae [2,2,4,0,2]).del 6).del 5
  ·rw[aE hg]
   exact zk 10 rfl (zB rfl aX (rfl) (zk 7 rfl (WP.ret ⟨aa,_,rfl,rfl,dx.2 ⟨cR,wh,di,s.ae [1,1,1,1,0]⟩⟩)))
theorem N_ (hT:W told){n:Int}(s:Sat h (cq r p q π::bh q p μ::aD p δ::S))(I:π.Ok)(J:μ.Ok)(U:δ.Ok)(hw:δ.waiting.length≤268435456):
  Call ⟨Tryz.prog,told⟩ 116 [.ptr r 0,.int .i64 n] h fun v h'=>v=.int .i64 (dP (π,μ,δ) n).1 ∧
   Sat h' (cq r p q (dP (π,μ,δ) n).2.1::bh q p (dP (π,μ,δ) n).2.2.1::aD p (dP (π,μ,δ) n).2.2.2::S):=by
 have s0:=s
 obtain⟨cR,wh,di,s⟩:=dx.1 s
 refine Call.of_wp (hT.free _ rfl) Tryz.func116 rfl rfl (zK 8 rfl (zY s 0 qV wD rfl (zm rfl ?_)))
 rcases D9 (n:=n) (j:=0) (s.ae [2]) with⟨g1,g2⟩|⟨i,g1,g2⟩
 ·have he:dP (π,μ,δ) n=(18,(π,μ,δ)):=by simp only[dP,g1]
  rw[he]
  exact zo rfl (gX rfl rfl g2) (zk 10 rfl (zo rfl (dQ rfl rfl) (zk 6 rfl (WP.ret ⟨aa,_,rfl,rfl,s0⟩))))
 ·obtain⟨i,f,rfl,hf⟩:=I.at g1
  have hl:=(List.getElem?_eq_some_iff.1 hf).1
  have he:dP (π,μ,δ) n=outF (π,μ,δ) i:=by grind[dP]
  rw[he]
  refine zo rfl (gX rfl rfl g2) (zk 10 rfl (zo rfl (dQ rfl rfl) (zk 8 rfl (zY s 0 kQ oK rfl (zm rfl (zo rfl (dD rfl rfl (mI (i:=i) hl)) (zc rfl (N9 hT s hf J U (by have:=I.len f (bu hf);omega) hw) ?_)))))))
  rintro v h ⟨rfl,s⟩
  exact zk 2 rfl (WP.ret ⟨aa,_,rfl,rfl,dx.2 ⟨cR,wh,di,s⟩⟩)
theorem Wp (U:W told){n:Int}(s:Sat h (cq r p q π::S)): Call ⟨Tryz.prog,told⟩ 172 [.ptr r 0,.int .i64 n] h fun v h'=>v=.bD [.int .u64 (dirtOf π n 0:Nat),.bool (lookL n π.aN).isSome]∧Sat h' (cq r p q π::S):=by
 obtain⟨cR,wh,di,s⟩:=dx.1 s
 refine Call.of_wp (U.free _ rfl) Tryz.func172 rfl rfl (zK 9 rfl (zY s 0 mX rF rfl (zm rfl ?_)))
 rcases D_ (n:=n) (s.ae [3]) with⟨I,J,_⟩|⟨x,I,J,_⟩
 ·refine ay.op rfl rfl rfl (gX rfl rfl J) ?_
  refine zk 3 rfl ?_
  refine ay.cV s rfl rfl rfl (cK wE) (fun p6 h s => ?_)
  refine zS rfl (s.iq (j:=0) rfl uq rfl rfl) (fun h s => ?_)
  exact zk 4 rfl (zY s 0 DX fA rfl (zk 4 rfl (WP.ret ⟨aa,_,rfl,by simp only[dirtOf,I];rfl,dx.2 ⟨cR,wh,di,s.drop⟩⟩)))
 ·skip
  refine zo rfl (gX rfl rfl J) (zk 3 rfl ?_)
  refine ay.cV s rfl rfl rfl (cK wE) (fun p6 h s => ?_)
  refine zS rfl (s.iq (j:=0) rfl uq rfl rfl) (fun h s => ?_)
  exact zk 4 rfl (zY s 0 DX fA rfl (zk 4 rfl (WP.ret ⟨aa,_,rfl,by simp only[dirtOf,I];rfl,dx.2 ⟨cR,wh,di,s.drop⟩⟩)))
def fq : Fm:=⟨-1,[],0,false,false⟩
def dN (π:Pl)(i:Nat)(f:Fm): Pl:={ π with aj:=π.aj.set i fq,aC:=if f.aO<0 then π.aC else ou f.aO π.aC }
def jw (π:Pl)(i:Nat)(n:Int)(b:List Nat): Pl:={ π with aj:=π.aj.set i ⟨n,b,1,true,false⟩,aC:=cY n (i:Int) π.aC }
inductive eY (ε:bA)(n:Int): Int→List Nat→bA→Prop where
 |arg (h:¬(0≤n∧n<ε.2.2.ai.length)):eY ε n 1 [] ε
 |xB (i:Nat) (f:Fm) (h1:0≤n) (h2:n<ε.2.2.ai.length) (hl:lookL n ε.1.aC=some (i:Int)) (hf:ε.1.aj[i]?=some f):eY ε n 0 f.b ({ ε.1 with aj:=ε.1.aj.set i { f with fQ:=true,pins:=f.pins+1 } },ε.2)
 |out (bC:Pl) (i:Nat) (f:Fm) (h1:0≤n) (h2:n<ε.2.2.ai.length) (hl:lookL n ε.1.aC=none) (hn:fK ε.1 bC) (hf:bC.aj[i]?=some f) (hh:bC.hand<bC.aj.length) (he:(outF (bC,ε.2) i).1≠0):eY ε n (outF (bC,ε.2) i).1 [] (outF (bC,ε.2) i).2
 |read (bC:Pl) (i:Nat) (f:Fm) (h1:0≤n) (h2:n<ε.2.2.ai.length) (hl:lookL n ε.1.aC=none) (hn:fK ε.1 bC) (hf:bC.aj[i]?=some f) (hh:bC.hand<bC.aj.length) (he:(outF (bC,ε.2) i).1=0)
   (hr:(outF (bC,ε.2) i).2.2.2.lH n≠0):eY ε n ((outF (bC,ε.2) i).2.2.2.lH n) [] (dN (outF (bC,ε.2) i).2.1 i f,(outF (bC,ε.2) i).2.2)
 |bad (bC:Pl) (i:Nat) (f:Fm) (h1:0≤n) (h2:n<ε.2.2.ai.length) (hl:lookL n ε.1.aC=none) (hn:fK ε.1 bC) (hf:bC.aj[i]?=some f) (hh:bC.hand<bC.aj.length) (he:(outF (bC,ε.2) i).1=0)
   (hr:(outF (bC,ε.2) i).2.2.2.lH n=0) (hc:dM ((outF (bC,ε.2) i).2.2.2.at n)≠0):eY ε n (dM ((outF (bC,ε.2) i).2.2.2.at n)) [] (dN (outF (bC,ε.2) i).2.1 i f,(outF (bC,ε.2) i).2.2)
 |load (bC:Pl) (i:Nat) (f:Fm) (h1:0≤n) (h2:n<ε.2.2.ai.length) (hl:lookL n ε.1.aC=none) (hn:fK ε.1 bC) (hf:bC.aj[i]?=some f) (hh:bC.hand<bC.aj.length) (he:(outF (bC,ε.2) i).1=0)
   (hr:(outF (bC,ε.2) i).2.2.2.lH n=0) (hc:dM ((outF (bC,ε.2) i).2.2.2.at n)=0):eY ε n 0 ((outF (bC,ε.2) i).2.2.2.at n) (jw (dN (outF (bC,ε.2) i).2.1 i f) i n ((outF (bC,ε.2) i).2.2.2.at n),(outF (bC,ε.2) i).2.2)
theorem Bk (h:ε.2.2.Ok): (outF ε i).2.2.2.Ok:=by
 unfold outF
 split
 ·exact h
 ·split
  ·exact h
  ·split
   ·exact h
   ·split
    ·exact mH h
    ·split
     ·exact(mH h).a_
     ·exact(mH h).a_
theorem Qz (h:ε.2.1.Ok): (outF ε i).2.2.1.Ok:=by
 grind[outF,uU]
theorem n4 (I:ε.1.aj[i]?=some f): ∃c,(outF ε i).2.1.aj[i]?=some { f with changed:=c }:=by
 have J:=(List.getElem?_eq_some_iff.1 I).1
 unfold outF
 rw[I]
 dsimp only
 split
 ·exact⟨f.changed,I⟩
 ·split
  ·exact⟨f.changed,I⟩
  ·split
   ·exact⟨f.changed,I⟩
   ·split
    ·exact⟨f.changed,I⟩
    simp_all
theorem Oa (hT:W told){n:Int}(s:Sat h (cq r p q π::bh q p μ::aD p δ::S))(Qy:π.Ok)(Qx:∀f∈π.aj,f.pins=0)(L0:μ.Ok)(Bj:δ.Ok)(hw:δ.waiting.length≤268435456):
  Call ⟨Tryz.prog,told⟩ 94 [.ptr r 0,.int .i64 n] h fun v h'=>∃(e:Int) (b:List Nat) (ε:bA),eY (π,μ,δ) n e b ε ∧
   ((e≠0∧v=.bD [.bw,.int .i64 e]∧Sat h' (cq r p q ε.1::bh q p ε.2.1::aD p ε.2.2::S))∨(e=0∧∃u,v=.bD [u,.int .i64 0]∧Sat h' (bH u b::cq r p q ε.1::bh q p ε.2.1::aD p ε.2.2::S))):=by
 have s0:=s
 obtain⟨cR,wh,di,s⟩:=dx.1 s
 refine Call.of_wp (hT.free _ rfl) Tryz.func94 rfl rfl (zK 9 rfl ?_)
 refine zd rfl (aJ rfl rfl bq) ?_ ?_
 ·intro hq
  have hq:n<0:=by grind
  exact zk 16 rfl (WP.ret ⟨aa,_,rfl,1,[],(π,μ,δ),.arg (fun q=>by omega),.inl ⟨by decide,rfl,s0⟩⟩)
 ·intro hq
  have hq:0≤n:=by grind
  refine zk 4 rfl (zY s 0 vJ jK rfl (zc rfl (Bg hT (s.ae [5])) ?_))
  rintro v h' ⟨rfl,rfl⟩
  refine zd rfl (aJ rfl rfl kK) ?_ ?_
  ·intro j8
   have j8:¬ n<δ.ai.length:=by grind
   exact zk 8 rfl (WP.ret ⟨aa,_,rfl,1,[],(π,μ,δ),.arg (fun q=>j8 q.2),.inl ⟨by decide,rfl,s0⟩⟩)
  ·intro j8
   have j8:n<δ.ai.length:=by grind
   refine zk 9 rfl (zY s 0 qV wD rfl (zm rfl ?_))
   rcases D9 (n:=n) (j:=0) (s.ae [2]) with⟨g1,g2⟩|⟨i,g1,g2⟩
   ·refine ay.op rfl rfl rfl (gX rfl rfl g2) ?_
    refine zk 15 rfl (zc rfl (Qw hT s Qy.hand (by have:=Qy.many;omega) Qx) ?_)
    rintro v h ⟨i,bC,f,rfl,U,hf,hh,s⟩
    have hl:=(List.getElem?_eq_some_iff.1 hf).1
    rw[←U.aC,←U.aN] at s
    have hfb:f.b.length≤512:=by
     have h1:π.aj[i]?=some (π.aj[i]'(by have:=U.len;omega)):=bn _
     generalize (π.aj[i]'(by grind))=f0 at h1
     obtain⟨t,ht⟩:=U.get i f0 h1
     rw[hf] at ht
     have:=cA ht
     rw[this]
     exact Qy.len f0 (bu h1)
    refine zk 6 rfl (zC rfl bq (by rfl) ?_)
    refine zk 7 rfl (zY s 0 kQ oK rfl (zm rfl (zo rfl (dD rfl rfl (mI (i:=i) hl)) (zk 7 rfl (zc rfl (N9 (π:=bC) hT s hf L0 Bj (by omega) hw) ?_)))))
    rintro v h ⟨rfl,s⟩
    obtain⟨c,AS⟩:=n4 (ε:=(bC,μ,δ)) hf
    have Ea:=Bk (ε:=(bC,μ,δ)) (i:=i) Bj
    refine zk 5 rfl ?_
    by_cases he:(outF (bC,μ,δ) i).1=0
    ·generalize ho:outF (bC,μ,δ) i=o at he s AS Ea ⊢
     obtain⟨oe,I,μ1,uV⟩:=o
     dsimp only at he s AS Ea ⊢
     subst he
     have Kr:(outF (bC,μ,δ) i).1=0:=by rw[ho]
     have Ks:(outF (bC,μ,δ) i).2=(I,μ1,uV):=by rw[ho]
     refine zC rfl aX (by decide) ?_
     obtain⟨pre,fv,post,J,hlen,s⟩:=jq (s.ae [1]) AS
     refine zk 8 rfl (zf rfl (pN _ _) (zl rfl (s.ld (k:=0) rfl dy (iZ J rfl)) ?_))
     refine zd rfl (aJ rfl rfl kK) ?_ ?_
     ·intro ni
      have ni:¬ f.aO<0:=by grind
      refine zk 2 rfl (WP.drawn [af,af,af,af,af,af,af,af,af] rfl (by kernel_rfl) (by kernel_rfl) ?_)
      refine zM rfl (zN rfl (zF rfl (qV _ _) (zL rfl (s.ld (k:=3) rfl wD rfl) (zM rfl (zN rfl (zF rfl (pN _ _) (zL rfl (s.ld (k:=0) rfl dy (iZ J rfl)) (au.ik rfl rfl rfl (OpR.delete rfl rfl rfl rfl (Qi (s.ae [4]) Cv bK)) ?_))))))))
      intro v h s
      have s:=s.ae [1,1,1,1,0]
      refine au.nil ⟨⟨aa,aa,aa,aa,aa,aa,aa,aa,aa,aa⟩,?_⟩
      refine zK 3 rfl (zo rfl (dn rfl (by rw[FU];rfl)) ?_)
      refine zn rfl (zS rfl (s.SJ (k:=0) (row':=gA fq .bw) rfl Cn J hlen (by rfl) rfl) ?_)
      intro h s
      have L1:(pre++(gA fq .bw++post)).length=I.aj.length*5:=by simpa[gA] using hlen
      have qF:(dN I i f).aC=ou f.aO I.aC:=by grind[dN]
      refine zk 5 rfl (zY s 3 vJ jK rfl (zm rfl (zc rfl (N8 (n:=n) hT (s.ae [7]) Ea) ?_)))
      rintro v h (⟨hr,rfl,s⟩|⟨hr,u,rfl,s⟩)
      ·dsimp only[bringA,getA,aQ] at s
       refine zk 10 rfl (zB rfl aX (by grind) ?_)
       refine zk 8 rfl (WP.ret ⟨aa,_,rfl,?_⟩)
       have s:=gJ (i:=i) (f':=fq) (v':=.bw) (s.rG.ae [2,2,0]) rfl AS J
       have e6:(I.aj.set i fq).length=I.aj.length:=ep
       rw[←e6,←qF] at s
       have s:=(dx (π:=dN I i f)).2 ⟨cR,wh,di,s.ae [3,0,2,2]⟩
       have hR:=eY.read (ε:=(π,μ,δ)) bC i f hq j8 g1 U hf hh Kr (by grind)
       rw[Ks] at hR
       exact⟨_,[],_,hR,.inl ⟨hr,rfl,(s.del 2).ae [0,1,0]⟩⟩
      ·have Yr:=Ea.at n
       obtain⟨xy,_,cap,_,rfl,_⟩:=s.kq (by omega)
       refine zk 10 rfl (zC rfl aX (rfl) (zk 7 rfl (zc rfl (wK hT s (bJ _ _) (by omega)) ?_)))
       rintro v h ⟨rfl,s⟩
       refine zk 5 rfl ?_
       by_cases hc:dM (uV.at n)=0
       ·skip
        refine zC rfl aX (by grind) ?_
        have s:=s.fO.ae [2,2,0,2,2,2,2,0,0]
        refine zk 8 rfl (zo rfl (dn rfl (by rw[FU];rfl)) ?_)
        refine zn rfl (zS rfl (s.SJ (k:=0) (row':=gA ⟨n,uV.at n,1,true,false⟩ (.sl xy 0 (uV.at n).length cap)) rfl Cn J L1 (by rfl) rfl) ?_)
        intro h s
        refine zk 5 rfl (zY s 3 qV wD rfl (zk 2 rfl (ay.ik rfl rfl (OpR.mapUpdate rfl rfl rfl rfl (oQ (f:=fun v (x:Int)=>.pu (v=.int .i64 x)) (x:=(i:Int)) (fun _ _=>aF.pu _) ((s.ae [4]).gB rfl) Cv bK)) ?_)))
        intro w h s
        refine zk 4 rfl (zc rfl (wH hT (s.ae [3]) (cI _ _) (by omega)) ?_)
        intro u h s
        refine zk 3 rfl (WP.ret ⟨aa,_,rfl,?_⟩)
        have s:=gJ (i:=i) (f':=⟨n,uV.at n,1,true,false⟩) (s.ae [3,3,1]) rfl AS J
        have e6:(I.aj.set i ⟨n,uV.at n,1,true,false⟩).length=I.aj.length:=ep
        have e7:(jw (dN I i f) i n (uV.at n)).aj=I.aj.set i ⟨n,uV.at n,1,true,false⟩:=by simp[jw,dN]
        rw[←e6,←e7,←qF] at s
        have s:=(dx (π:=jw (dN I i f) i n (uV.at n))).2 ⟨cR,wh,di,s.ae [3,0,1,1]⟩
        have hR:=eY.load (ε:=(π,μ,δ)) bC i f hq j8 g1 U hf hh Kr (by grind) (by grind)
        rw[Ks] at hR
        exact⟨_,_,_,hR,.inr ⟨rfl,u,rfl,(s.del 4).ae [1,0]⟩⟩
       ·skip
        refine zB rfl aX (by grind) ?_
        refine zk 8 rfl (WP.ret ⟨aa,_,rfl,?_⟩)
        have s:=s.drop
        have s:=gJ (i:=i) (f':=fq) (v':=.bw) (s.rG.ae [2,2,0]) rfl AS J
        dsimp only[bringA,getA,aQ] at s
        have e6:(I.aj.set i fq).length=I.aj.length:=ep
        rw[←e6,←qF] at s
        have s:=(dx (π:=dN I i f)).2 ⟨cR,wh,di,s.ae [3,0,2,2]⟩
        dsimp only[bringA,getA,aQ] at s
        have hR:=eY.bad (ε:=(π,μ,δ)) bC i f hq j8 g1 U hf hh Kr (by grind) (by grind)
        rw[Ks] at hR
        exact⟨_,[],_,hR,.inl ⟨hc,rfl,(s.del 2).ae [0,1,0]⟩⟩
     ·intro ni
      have ni:f.aO<0:=by grind
      refine zk 6 rfl (zo rfl (dn rfl (by rw[FU];rfl)) ?_)
      refine zn rfl (zS rfl (s.SJ (k:=0) (row':=gA fq .bw) rfl Cn J hlen (by rfl) rfl) ?_)
      intro h s
      dsimp only[setA] at s
      have L1:(pre++(gA fq .bw++post)).length=I.aj.length*5:=by simpa[gA] using hlen
      have qF:(dN I i f).aC=I.aC:=by grind[dN]
      refine zk 5 rfl (zY s 3 vJ jK rfl (zm rfl (zc rfl (N8 (n:=n) hT (s.ae [7]) Ea) ?_)))
      rintro v h (⟨hr,rfl,s⟩|⟨hr,u,rfl,s⟩)
      ·dsimp only[bringA,getA,aQ] at s
       refine zk 10 rfl (zB rfl aX (by grind) ?_)
       refine zk 8 rfl (WP.ret ⟨aa,_,rfl,?_⟩)
       have s:=gJ (i:=i) (f':=fq) (v':=.bw) (s.rG.ae [2,2,0]) rfl AS J
       dsimp only[bringA,getA,aQ] at s
       have e6:(I.aj.set i fq).length=I.aj.length:=ep
       rw[←e6,←qF] at s
       have s:=(dx (π:=dN I i f)).2 ⟨cR,wh,di,s.ae [3,0,2,2]⟩
       dsimp only[bringA,getA,aQ] at s
       have hR:=eY.read (ε:=(π,μ,δ)) bC i f hq j8 g1 U hf hh Kr (by grind)
       rw[Ks] at hR
       exact⟨_,[],_,hR,.inl ⟨hr,rfl,(s.del 2).ae [0,1,0]⟩⟩
      ·have Yr:=Ea.at n
       obtain⟨xy,_,cap,_,rfl,_⟩:=s.kq (by omega)
       refine zk 10 rfl (zC rfl aX (rfl) (zk 7 rfl (zc rfl (wK hT s (bJ _ _) (by omega)) ?_)))
       rintro v h ⟨rfl,s⟩
       refine zk 5 rfl ?_
       by_cases hc:dM (uV.at n)=0
       ·skip
        refine zC rfl aX (by grind) ?_
        have s:=s.fO.ae [2,2,0,2,2,2,2,0,0]
        dsimp only[bringA,getA,aQ] at s
        refine zk 8 rfl (zo rfl (dn rfl (by rw[FU];rfl)) ?_)
        refine zn rfl (zS rfl (s.SJ (k:=0) (row':=gA ⟨n,uV.at n,1,true,false⟩ (.sl xy 0 (uV.at n).length cap)) rfl Cn J L1 (by rfl) rfl) ?_)
        intro h s
        dsimp only[setA] at s
        refine zk 5 rfl (zY s 3 qV wD rfl (zk 2 rfl (ay.ik rfl rfl (OpR.mapUpdate rfl rfl rfl rfl (oQ (f:=fun v (x:Int)=>.pu (v=.int .i64 x)) (x:=(i:Int)) (fun _ _=>aF.pu _) ((s.ae [4]).gB rfl) Cv bK)) ?_)))
        intro w h s
        dsimp only[bringA,getA,aQ] at s
        refine zk 4 rfl (zc rfl (wH hT (s.ae [3]) (cI _ _) (by omega)) ?_)
        intro u h s
        dsimp only[bringA,getA,aQ] at s
        refine zk 3 rfl (WP.ret ⟨aa,_,rfl,?_⟩)
        have s:=gJ (i:=i) (f':=⟨n,uV.at n,1,true,false⟩) (s.ae [3,3,1]) rfl AS J
        dsimp only[bringA,getA,aQ] at s
        have e6:(I.aj.set i ⟨n,uV.at n,1,true,false⟩).length=I.aj.length:=ep
        have e7:(jw (dN I i f) i n (uV.at n)).aj=I.aj.set i ⟨n,uV.at n,1,true,false⟩:=by simp[jw,dN]
        rw[←e6,←e7,←qF] at s
        have s:=(dx (π:=jw (dN I i f) i n (uV.at n))).2 ⟨cR,wh,di,s.ae [3,0,1,1]⟩
        dsimp only[bringA,getA,aQ] at s
        have hR:=eY.load (ε:=(π,μ,δ)) bC i f hq j8 g1 U hf hh Kr (by grind) (by grind)
        rw[Ks] at hR
        exact⟨_,_,_,hR,.inr ⟨rfl,u,rfl,(s.del 4).ae [1,0]⟩⟩
       ·skip
        refine zB rfl aX (by grind) ?_
        refine zk 8 rfl (WP.ret ⟨aa,_,rfl,?_⟩)
        have s:=s.drop
        have s:=gJ (i:=i) (f':=fq) (v':=.bw) (s.rG.ae [2,2,0]) rfl AS J
        dsimp only[bringA,getA,aQ] at s
        have e6:(I.aj.set i fq).length=I.aj.length:=ep
        rw[←e6,←qF] at s
        have s:=(dx (π:=dN I i f)).2 ⟨cR,wh,di,s.ae [3,0,2,2]⟩
        dsimp only[bringA,getA,aQ] at s
        have hR:=eY.bad (ε:=(π,μ,δ)) bC i f hq j8 g1 U hf hh Kr (by grind) (by grind)
        rw[Ks] at hR
        exact⟨_,[],_,hR,.inl ⟨hc,rfl,(s.del 2).ae [0,1,0]⟩⟩
    ·skip
     refine zB rfl aX (by grind) ?_
     exact zk 8 rfl (WP.ret ⟨aa,_,rfl,_,[],_,.out bC i f hq j8 g1 U hf hh he,.inl ⟨he,rfl,dx.2 ⟨cR,wh,di,s⟩⟩⟩)
   ·obtain⟨i,f,rfl,hf⟩:=Qy.at g1
    have hl:=(List.getElem?_eq_some_iff.1 hf).1
    obtain⟨pre,fv,post,J,hlen,s⟩:=jq (s.ae [1]) hf
    have Gr:=Qx f (bu hf)
    have qd:=Qy.len f (bu hf)
    refine zo rfl (gX rfl rfl g2) (zk 15 rfl (zY s 3 kQ oK rfl (zm rfl (zo rfl (dD rfl rfl (mI (i:=i) hl)) (zk 6 rfl (zf rfl (DZ _ _) (zS rfl (s.stM (k:=0) (j:=3) rfl xw J hlen (by simp[gA]) rfl rfl) ?_)))))))
    intro h s
    dsimp only[setA] at s
    refine zk 5 rfl (zf rfl (qW _ _) (zl rfl (s.ld (k:=0) rfl dy (iZ J rfl)) (zb rfl (by exact bP (aV (by omega) (by omega))) ?_)))
    refine zn rfl (zf rfl (qW _ _) (zS rfl (s.stM (k:=0) (j:=2) rfl jt J (by grind) (by simp[gA]) rfl rfl) ?_))
    intro h s
    have e5:((gA f fv).set 3 (.bool true)).set 2 (.int .i64 (f.pins+1))=gA { f with fQ:=true,pins:=f.pins+1 } fv:=rfl
    rw[e5] at s
    refine zk 5 rfl (zf rfl (Ai _ _) (zl rfl (s.ld (k:=0) rfl bL (iZ J rfl)) (zc rfl (wH hT (s.ae [2]) (cI _ _) (by omega)) ?_)))
    intro u h s
    refine zk 3 rfl (WP.ret ⟨aa,_,rfl,?_⟩)
    have s:=gJ (i:=i) (f':={ f with fQ:=true,pins:=f.pins+1 }) (s.ae [2,2,1]) rfl hf J
    refine⟨0,f.b,_,.xB i f hq j8 g1 hf,.inr ⟨rfl,u,rfl,?_⟩⟩
    have e6:(π.aj.set i { f with fQ:=true,pins:=f.pins+1 }).length=π.aj.length:=ep
    rw[←e6] at s
    exact((dx (π:={ π with aj:=π.aj.set i { f with fQ:=true,pins:=f.pins+1 } })).2 ⟨cR,wh,di,s.ae [2,0,1,1]⟩).ae [1,0]
end
def CJ : Fm:=⟨0,[],0,false,false⟩
def Pl.fresh (n:Nat): Pl:=⟨List.replicate n fq,[],[],0⟩
theorem T_ : ∃i,Tryz.prog.info? 230=some i∧i.size=5∧i.bytes=48 :=
 ⟨_,(show Tryz.prog.info? 230=some ((Tryz.prog.info? 230).getD default) by kernel_rfl),by kernel_rfl,by kernel_rfl⟩
theorem QA {a b:PM}: ∀n:Nat,(tS (repeatL [.int .i64 0,.bw,.int .i64 0,.bool false,.bool false] n) (List.replicate n CJ)).p a b:=by
 intro n
 induction n with
 |zero=>trivial
 |succ n I=>exact⟨⟨⟨rfl,rfl,rfl,rfl⟩,⟨(by intro b J;cases J),.inl ⟨.inl rfl,rfl⟩⟩⟩,I⟩
section
variable {told:dI} {p:Nat} {v:V}
noncomputable def pnL : Code:=cC [1,1,1,0,1,0,0] ((Tryz.f64.body).getD .skip)
theorem Ob (hn:n<4294967296): ∀(j i:Nat) (m:List Fm) (h:H) (E:List (Nat×V)) (Q:Ex→List (Nat×V)→H→Prop),i+j=n→m=List.replicate i fq++List.replicate j CJ →
  Sat h (pt r (.cells 6 (qo p q cR n wh di 0) false)::fc cR m::S)→Has E [(8,.ptr r 0),(28,.int .i64 n),(29,.int .i64 i)] →
  (∀E' h',Has E' [(8,.ptr r 0)]→Sat h' (pt r (.cells 6 (qo p q cR n wh di 0) false)::fc cR (List.replicate n fq)::S)→Q (.exit 0) E' h')→WP ⟨Tryz.prog,told⟩ 41 (.loop pnL) E h Q:=by
 intro j
 induction j with
 |zero =>
  intro i m h E Q hi hm s J U
  refine WP.loop (WP.has J (zg rfl (zC rfl bq (by simp<;>omega) ?_)))
  refine zk 3 rfl (WP.exit (U _ _ ⟨rfl,aa⟩ ?_))
  rw[hm] at s
  have:i=n:=by omega
  subst this
  simpa using s
 |succ j ih =>
  intro i m h E Q hi hm s J U
  have rR:m.length=n:=by rw[hm];simp;omega
  have hf:m[i]?=some CJ:=by rw[hm,yW (by simp)];simp[y6]
  obtain⟨pre,fv,post,I,hlen,s⟩:=jq (s.ae [1]) hf
  dsimp only[bringA,getA,aQ] at s
  refine WP.loop (WP.has J (zg rfl (zB rfl bq (by simp<;>omega) ?_)))
  refine zk 5 rfl (WP.block (zK 8 rfl (zY s 3 kQ oK rfl (zm rfl (zo rfl (dD rfl rfl (mI (i:=i) (by omega))) ?_)))))
  refine zf rfl (pN _ _) (zS rfl (s.stM (k:=0) (j:=0) rfl jt I hlen (by simp[gA]) rfl rfl) ?_)
  intro h s
  dsimp only[setA] at s
  have e5:(gA CJ fv).set 0 (.int .i64 (-1))=gA fq fv:=rfl
  rw[e5] at s
  refine zv (zr rfl (zb rfl (by exact bP (aV (by omega) (by omega))) ?_))
  refine zm rfl (zv ?_)
  have s:=gJ (i:=i) (f':=fq) s rfl hf I
  refine ih (i+1) (m.set i fq) h _ Q (by omega) ?_ (s.ae [1,0]) ⟨rfl,rfl,rfl,aa⟩ U
  rw[hm,List.set_append_right _ _ (by simp),gM,Nat.sub_self,y6,List.set_cons_zero,List.replicate_succ',cE]
  rfl
theorem Kt (hT:W told){n:Int}(s:Sat h S): Call ⟨Tryz.prog,told⟩ 64 [.ptr p 0,.ptr q 0,.int .i64 n] h fun v h' =>
  (¬(1≤n∧n≤1024)∧v=.bD [.cH,.int .i64 1]∧Sat h' S)∨(1≤n∧n≤1024∧∃r,v=.bD [.ptr r 0,.int .i64 0]∧Sat h' (cq r p q (Pl.fresh n.toNat)::S)):=by
 refine Call.of_wp (hT.free _ rfl) Tryz.func64 rfl rfl (zK 9 rfl ?_)
 refine zd rfl (aJ rfl rfl bq) ?_ ?_
 ·intro J
  have J:n<1:=by simpa using J
  exact zk 11 rfl (WP.ret ⟨aa,_,rfl,.inl ⟨fun q=>by omega,rfl,s⟩⟩)
 ·intro J
  have J:1≤n:=by simp at J;omega
  refine zk 2 rfl ?_
  refine zd rfl (aJ rfl rfl dS) ?_ ?_
  ·intro I
   have I:1024<n:=by simpa using I
   exact zk 8 rfl (WP.ret ⟨aa,_,rfl,.inl ⟨fun q=>by omega,rfl,s⟩⟩)
  ·intro I
   have I:n≤1024:=by simp at I;omega
   obtain⟨n,rfl⟩:∃k:Nat,n=k:=⟨n.toNat,by omega⟩
   refine zk 9 rfl ?_
   obtain⟨i1,U,jd,qj⟩:=T_
   obtain⟨id,h1,e1,s1⟩:=ym (P:=Tryz.prog) s yt U Yc jd (by omega) rfl (by decide) (n:=n) (by omega)
   refine ay.any rfl rfl rfl (OpR.of (R:=fun v h'=>v=.sl id 0 n (.exact n)∧h'=h1) (rC rfl rfl e1) ⟨rfl,rfl⟩) ?_
   rintro v h ⟨rfl,rfl⟩
   have s:Sat h (fc id (List.replicate n CJ)::S):=ki.2 ⟨_,by rw[gM];exact((s1.gB (φ:=True) aa).fR fun a b _=>QA n).ae [1]⟩
   refine ay.yb s rfl rfl rfl rfl (fun p20 h s => ?_)
   refine ay.yb s rfl rfl rfl rfl (fun Wq h s => ?_)
   refine zo rfl (dn rfl (by rw[X9];rfl)) ?_
   refine ay.cV s rfl rfl rfl (gP rfl rfl) (fun ZJ h s => ?_)
   refine zk 7 rfl (zY s 0 kQ oK rfl (zo rfl (aY rfl rfl rfl (pQ rfl yt)) (zk 2 rfl (WP.block ?_))))
   have s:=tL (f:=fun v (x:Nat×Bool)=>.pu (v=.agg [.int .u64 (x.1:Int),.bool x.2])) (s.ae [1])
   have s:=tL (f:=fun v (x:Int)=>.pu (v=.int .i64 x)) (s.ae [2])
   have s:=s.ae [2,2,0,0]
   refine Ob (n:=n) (by omega) n 0 _ _ _ _ (by omega) rfl s ⟨rfl,rfl,rfl,aa⟩ (fun E' h' fW s' => ?_)
   refine WP.has fW (zK 6 rfl (WP.ret ⟨aa,_,rfl,?_⟩))
   refine .inr ⟨J,I,_,rfl,(dx (π:=Pl.fresh n)).2 ⟨id,.map p20,.map Wq,?_⟩⟩
   have e6:(Pl.fresh n).aj.length=n:=by simp[Pl.fresh]
   rw[e6]
   exact s'
end
theorem Oc {c:Nat}: ∀ {l:cx} {b:Nat},fg c b l→bornUp c b (l.map eN)=true:=by
 intro l
 induction l with
 |nil=>intro b _;rfl
 |cons e l I =>
  intro b h
  obtain⟨J,U,h3⟩:=h
  simp only[gO,eN,bornUp]
  rw[show(Nat.ble b e.2.2&&Nat.blt e.2.2 c)=true by rw[bS,aZ];exact⟨J,by rw[Nat.blt];exact aZ.2 U⟩,ak]
  exact I h3
theorem L2 : ∀ {l:cx},(∀e∈l,(Lit.int .i64 e.1).wf=true)→keyInts (l.map eN)=some (l.map (·.1)):=by
 intro l
 induction l with
 |nil=>intro _;rfl
 |cons e l I =>
  intro h
  simp only[gO,eN,keyInts]
  rw[h e cn,ak]
  have:=I (fun e he=>h e (b9 _ he))
  rw[this]
theorem I_ {x:Int}: ∀ {l:List Int},l.Pairwise (· < ·)→x∉l→(insI x l).Pairwise (· < ·):=by
 intro l
 induction l with
 |nil=>intro _ _;simp[insI]
 |cons y l ih =>
  intro h U
  simp only[sS,mT,not_or] at h U
  simp only[insI]
  by_cases J:x≤y
  ·rw[er J,ak]
   have:x<y:=by omega
   simp only[sS,mT]
   refine⟨fun z I => ?_,h⟩
   rcases I with rfl|I
   ·exact this
   ·have:=h.1 z I;omega
  ·rw[eW J,bf]
   simp only[sS]
   refine⟨fun z I => ?_,ih h.2 U.2⟩
   have:=(xW x l).mem_iff.1 I
   rcases List.mem_cons.1 this with rfl|I
   ·omega
   ·exact h.1 z I
theorem Ja : ∀ {l:List Int},l.Nodup→(m7 l).Pairwise (· < ·):=by
 intro l
 induction l with
 |nil=>intro _;exact List.Pairwise.nil
 |cons x l I =>
  intro h
  simp only[Dx] at h
  exact I_ (I h.2) (fun J=>h.1 ((en l).mem_iff.1 J))
theorem QB : ∀ {l:List Int},l.Pairwise (· < ·)→rM l=true:=by
 intro l
 induction l with
 |nil=>intro _;rfl
 |cons x l I =>
  intro h
  simp only[sS] at h
  simp only[rM,bS,qK,gN]
  exact⟨h.1,I h.2⟩
section
variable {f:V→α→aS} {told:dI} {mv:V} {m:List (Int×α)} {b:Nat}
theorem QC (I:W told)(s:Sat h S): Call ⟨Tryz.prog,told⟩ 115 [.map id] h fun v h'=>∃b,v=.fn (.func 187) [] [.ptr b 0]∧Sat h' (pt b (.cells 1 [.map id] false)::S):=by
 refine Call.of_wp (I.free _ rfl) Tryz.func115 rfl rfl (zg rfl ?_)
 refine ay.cV s rfl rfl rfl (gP rfl rfl) (fun p1 h s => ?_)
 exact zk 4 rfl (zo rfl (Ac rfl rfl) (zk 2 rfl (WP.ret ⟨aa,_,rfl,_,rfl,s⟩)))
theorem QD (I:W told)(s:Sat h S): Call ⟨Tryz.prog,told⟩ 181 [.map id] h fun v h'=>∃b,v=.fn (.func 218) [] [.ptr b 0]∧Sat h' (pt b (.cells 1 [.map id] false)::S):=by
 refine Call.of_wp (I.free _ rfl) Tryz.func181 rfl rfl (zg rfl ?_)
 refine ay.cV s rfl rfl rfl (gP rfl rfl) (fun p1 h s => ?_)
 exact zk 4 rfl (zo rfl (Ac rfl rfl) (zk 2 rfl (WP.ret ⟨aa,_,rfl,_,rfl,s⟩)))
def az (m:List (Int×α)): List Int:=m7 (m.map (·.1))
theorem fG {n:Int}: n∈az m↔n∈m.map (·.1):=(en _).mem_iff
theorem QE (l:List Int): (eS l).all storable=true:=by simp[eS,storable]
theorem pU (hT:W told)(s:Sat h (pt b (.cells 1 [mv] false)::jc f mv m::S))(hg:v7 Aj g=true)(hm:m.length≤1048576)(hk:∀n∈m.map (·.1),(Lit.int .i64 n).wf=true):
  Call ⟨Tryz.prog,told⟩ 106 [.fn (.func g) [] [.ptr b 0]] h fun v h'=>Sat h' (.arr 1 v (eS (az m))::pt b (.cells 1 [mv] false)::jc f mv m::S):=by
 obtain⟨id,l,c,rfl,hb,hn,s1⟩:=eB.1 (s.ae [1])
 have s1:Sat h (fV id l c::eT f l m::pt b (.cells 1 [.map id] false)::S):=s1
 obtain⟨q1,q2,q3,q4,q5⟩:=s1.at (k:=1) rfl
 have I:=sM q5
 have hlen:l.length=m.length:=by have:=kO List.length I;simpa using this
 have U:=s1.row (k:=0) rfl
 have aaG:=s1.row (k:=2) rfl
 have oz:∀e∈l,(Lit.int .i64 e.1).wf=true:=fun e he=>hk e.1 (by rw[←I];exact lP he)
 have yz:rM (m7 (l.map (·.1)))=true:=QB (Ja (by rw[I];exact hn))
 have J:∃v h',toldSorted Aj [.fn (.func g) [] [.ptr b 0]] h=some (v,h')∧Sat h' (.arr 1 v (eS (az m))::pt b (.cells 1 [.map id] false)::jc f (.map id) m::S):=by
  simp only[toldSorted,aaG,U,iE,hg,Oc hb,L2 oz,yz]
  rw[show(Nat.beq 1 1&&true&&true&&Nat.ble l.length 1048576)=true by rw[aZ.2 (by omega)];rfl,ak]
  simp only[ak]
  cases hl:l.map (·.1) with
  |nil =>
   refine⟨_,_,rfl,?_⟩
   have:az m=[]:=by rw[az,←I,hl];rfl
   rw[this]
   exact s.qh
  |cons x xs =>
   refine⟨_,_,rfl,?_⟩
   have e1:az m=m7 (x::xs):=by rw[az,←I,hl]
   have e2:(m7 (x::xs)).length=(x::xs).length:=(en _).length_eq
   have e3:(x::xs).length=l.length:=by rw[←hl,iE]
   rw[e1,←e3]
   refine(s.new (.cells (eS (m7 (x::xs))).length (eS (m7 (x::xs))) false)).fR fun a r GC=>⟨QE _,.inr ⟨h.next,(x::xs).length,.rest 1 0,(eS (m7 (x::xs))).length,[],rfl,?_,?_,by simp,rfl,rfl,rfl,rfl,by simp⟩⟩
   ·rw[cS];exact GC
   ·simp only[eS,iE,e2,e_]
 obtain⟨v,h',e1,e2⟩:=J
 exact⟨v,h',ij.told hT.sorted Tryz.func106 rfl e1,e2⟩
end
structure ow (ε:bA): Prop where
 pl:ε.1.Ok
 lg:ε.2.1.Ok
 dk:ε.2.2.Ok
theorem QF (h:ε.1.Ok): (outF ε i).2.1.Ok:=by
 unfold outF
 split
 ·exact h
 ·rename_i f J
  have hm:=bu J
  split
  ·exact h
  ·split
   ·exact h
   ·split
    ·exact h
    ·split
     ·exact h
     ·refine⟨by simp only[ep];exact h.hand,by simp only[ep];exact h.many,fun e he=>by simp only[ep];exact h.aC e he,fun g I => ?_,fun g I => ?_⟩
      ·rcases oX I with I|rfl
       ·exact h.len g I
       ·exact h.len f hm
      ·rcases oX I with I|rfl
       ·exact h.pins g I
       ·exact h.pins f hm
theorem q_ (h:ow ε): ow (outF ε i).2:=⟨QF h.pl,Qz h.lg,Bk h.dk⟩
theorem AT {n:Int}: (δ.a_ n b).2.waiting.length≤δ.waiting.length+1:=by
 unfold Dk.a_
 split
 ·exact hO _
 ·split
  ·exact hO _
  ·split
   ·exact hO _
   ·exact sV (by simp[Dk.wr])
theorem rS : (outF ε i).2.2.2.waiting.length≤ε.2.2.waiting.length+1:=by
 unfold outF
 split
 ·exact hO _
 ·rename_i f J
  split
  ·exact hO _
  ·split
   ·exact hO _
   ·split
    ·exact Nat.le_succ_of_le (sV (by rw[nB]))
    ·have I:=AT (δ:=(aK ε.2 (dU f.b 4 8)).2.2) (n:=f.aO) (b:=f.b)
     rw[nB] at I
     split<;>exact I
theorem Jb {n:Int}(h:ow ε): ow (dP ε n).2:=by
 unfold dP
 split
 ·exact h
 ·exact q_ h
theorem Hh {n:Int}: (dP ε n).2.2.2.waiting.length≤ε.2.2.waiting.length+1:=by
 unfold dP
 split
 ·exact hO _
 ·exact rS
def writeAllF : List Int→bA→Int×bA
 |[],ε=>(0,ε)
 |n::l,ε=>if (dP ε n).1≠0 then dP ε n else writeAllF l (dP ε n).2
section
variable {told:dI} {p:Nat} {v:V}
noncomputable def waL : Code:=cC [1,0,1,0,0] ((Tryz.f56.body).getD .skip)
theorem FD (hT:W told)(Od:ks.length≤1048576): ∀(j i:Nat) (ε:bA) (h:H) (E:List (Nat×V)) (Q:Ex→List (Nat×V)→H→Prop),i+j=ks.length→ow ε→ε.2.2.waiting.length+j≤268435456 →
  Sat h (cq r p q ε.1::bh q p ε.2.1::aD p ε.2.2::.arr 1 kv (eS ks)::S)→Has E [(0,.ptr r 0),(11,kv),(12,.int .i64 ks.length),(13,.int .i64 i)] →
  ((writeAllF (ks.drop i) ε).1≠0→∀E' h',look E' 2=some (.int .i64 (writeAllF (ks.drop i) ε).1)→Sat h' (cq r p q (writeAllF (ks.drop i) ε).2.1::bh q p (writeAllF (ks.drop i) ε).2.2.1::aD p (writeAllF (ks.drop i) ε).2.2.2::S)→Q .ret E' h') →
  ((writeAllF (ks.drop i) ε).1=0→∀E' h',Sat h' (cq r p q (writeAllF (ks.drop i) ε).2.1::bh q p (writeAllF (ks.drop i) ε).2.2.1::aD p (writeAllF (ks.drop i) ε).2.2.2::S)→Q (.exit 0) E' h') →
  WP ⟨Tryz.prog,told⟩ 24 (.loop waL) E h Q:=by
 intro j
 induction j with
 |zero =>
  intro i ε h E Q hi I hw s hE J U
  refine WP.loop (WP.has hE (zg rfl (zC rfl bq (by simp<;>omega) ?_)))
  refine zk 3 rfl (WP.exit ?_)
  rw[kL (by omega)] at U
  exact U rfl _ _ (s.del 3)
 |succ j ih =>
  intro i ε h E Q hi I hw s hE J U
  have hn:ks[i]?=some (ks[i]'(by omega)):=bn _
  generalize (ks[i]'(by omega))=n at hn
  have hc:(eS ks)[i]?=some (.int .i64 n):=by simp[eS,hn]
  have jo:ks.drop i=n::ks.drop (i+1):=by
   obtain⟨h1,rfl⟩:=List.getElem?_eq_some_iff.1 hn
   exact lJ h1
  rw[jo] at J U
  obtain⟨id,off,e1,e2⟩:=iX (P:=Tryz.prog) s (k:=3) rfl hc eC jt
  have aaH:=Jb (n:=n) I
  have Hi:=Hh (ε:=ε) (n:=n)
  refine WP.loop (WP.has hE (zg rfl (zB rfl bq (by simp<;>omega) ?_)))
  refine zk 5 rfl (WP.block (zg rfl (zo rfl (dD (r:=.ptr id off) rfl rfl e1) (zl rfl (e2 _ dy) (zk 6 rfl (zc rfl (N_ (n:=n) hT s I.pl I.lg I.dk (by omega)) ?_))))))
  rintro v h ⟨rfl,s⟩
  simp only[writeAllF] at J U
  refine zk 5 rfl ?_
  by_cases he:(dP ε n).1=0
  ·skip
   refine zC rfl aX (by simp;exact he) ?_
   refine zv (zj rfl (WP.skip (zr rfl (zb rfl (by exact bP (aV (by omega) (by omega))) ?_))))
   refine zm rfl (zv ?_)
   rw[ah (by simpa using he)] at J U
   exact ih (i+1) (dP ε n).2 h _ Q (by omega) aaH (by omega) s ⟨rfl,rfl,rfl,rfl,aa⟩ J U
  ·skip
   refine zB rfl aX (by simp;exact he) ?_
   refine zk 7 rfl (WP.ret ?_)
   rw[aE he] at J
   exact J he _ _ rfl (s.del 3)
theorem AU (I:W told)(s:Sat h (cq r p q π::bh q p μ::aD p δ::S))(J:ow (π,μ,δ))(hw:δ.waiting.length+π.aC.length≤268435456)(hm:π.aC.length≤1048576)(hk:∀n∈π.aC.map (·.1),(Lit.int .i64 n).wf=true):
  Call ⟨Tryz.prog,told⟩ 56 [.ptr r 0] h fun v h'=>v=.int .i64 (writeAllF (az π.aC) (π,μ,δ)).1 ∧
   Sat h' (cq r p q (writeAllF (az π.aC) (π,μ,δ)).2.1::bh q p (writeAllF (az π.aC) (π,μ,δ)).2.2.1::aD p (writeAllF (az π.aC) (π,μ,δ)).2.2.2::S):=by
 obtain⟨cR,wh,di,s⟩:=dx.1 s
 obtain⟨wid,rfl⟩:=yo s (j:=2) rfl
 have hl:(az π.aC).length=π.aC.length:=by rw[az,(en _).length_eq,iE]
 refine Call.of_wp (I.free _ rfl) Tryz.func56 rfl rfl (zK 9 rfl (zY s 0 qV wD rfl (zc rfl (QC I s) ?_)))
 rintro v h ⟨b,rfl,s⟩
 refine zc rfl (pU I (s.ae [0,2]) (by decide) hm hk) ?_
 intro kv h s
 refine zo rfl (aY rfl rfl rfl (s.iG (n:=(az π.aC).length) (j:=0) rfl (by simp[eS]) (by decide) eC)) ?_
 refine zk 2 rfl (WP.block ?_)
 have s:=dx.2 ⟨cR,.map wid,di,s.ae [3,3,2,2]⟩
 have s:=(s.del 2).ae [0,1,1,0]
 refine FD I (ks:=az π.aC) (by omega) (az π.aC).length 0 (π,μ,δ) _ _ _ (by omega) J (by simp only;omega) s ⟨rfl,rfl,rfl,rfl,aa⟩ (fun he E' h' U s' => ?_) (fun he E' h' s' => ?_)
 ·rw[fY] at U s'
  exact⟨aa,_,ny U,rfl,s'⟩
 ·rw[fY] at he s'
  rw[he]
  exact WP.has (F:=[]) aa (zK 4 rfl (WP.ret ⟨aa,_,rfl,rfl,s'⟩))
end
def dirtC (π:Pl): List Int→List V
 |[]=>[]
 |n::l=>.int .i64 n::.int .u64 (dirtOf π n 0:Nat)::dirtC π l
theorem yA (π:Pl): ∀l:List Int,(dirtC π l).length=l.length*2:=by
 intro l
 induction l with
 |nil=>rfl
 |cons n l I=>simp only[dirtC,bI,I];omega
theorem Oe (π:Pl): ∀l m:List Int,dirtC π (l++m)=dirtC π l++dirtC π m:=by
 intro l m
 induction l with
 |nil=>rfl
 |cons n l I=>simp only[iU,dirtC,I]
theorem E5 : ∃i,Tryz.prog.info? 210=some i∧i.size=2∧i.bytes=16 :=
 ⟨_,(show Tryz.prog.info? 210=some ((Tryz.prog.info? 210).getD default) by kernel_rfl),by kernel_rfl,by kernel_rfl⟩
section
variable {told:dI} {p:Nat} {v:V}
noncomputable def diL : Code:=cC [1,1,0,1,0,0] ((Tryz.f111.body).getD .skip)
theorem L3 (hT:W told)(Od:ks.length≤1048576): ∀(j i:Nat) (av:V) (h:H) (E:List (Nat×V)) (Q:Ex→List (Nat×V)→H→Prop),i+j=ks.length →
  Sat h (.arr 2 av (dirtC π (ks.take i))::cq r p q π::.arr 1 kv (eS ks)::S)→Has E [(0,.ptr r 0),(3,av),(17,kv),(18,.int .i64 ks.length),(19,.int .i64 i)] →
  (∀I E' h',look E' 3=some I→Sat h' (.arr 2 I (dirtC π ks)::cq r p q π::S)→Q (.exit 0) E' h') →
  WP ⟨Tryz.prog,told⟩ 37 (.loop diL) E h Q:=by
 intro j
 induction j with
 |zero =>
  intro i av h E Q hi s U hx
  refine WP.loop (WP.has U (zg rfl (zC rfl bq (by simp<;>omega) ?_)))
  refine zk 3 rfl (WP.exit ?_)
  rw[jy (by omega)] at s
  exact hx _ _ _ rfl (s.del 2)
 |succ j ih =>
  intro i av h E Q hi s U hx
  have hn:ks[i]?=some (ks[i]'(by omega)):=bn _
  generalize (ks[i]'(by omega))=n at hn
  have hc:(eS ks)[i]?=some (.int .i64 n):=by simp[eS,hn]
  have J:ks.take (i+1)=ks.take i++[n]:=by rw[y_,hn];rfl
  obtain⟨id,off,e1,e2⟩:=iX (P:=Tryz.prog) s (k:=2) rfl hc eC jt
  refine WP.loop (WP.has U (zg rfl (zB rfl bq (by simp<;>omega) ?_)))
  refine zk 5 rfl (WP.block (zg rfl (zo rfl (dD (r:=.ptr id off) rfl rfl e1) (zl rfl (e2 _ dy) ?_))))
  obtain⟨cR,wh,di,s⟩:=dx.1 (s.ae [1])
  dsimp only[bringA,getA,aQ] at s
  refine zk 7 rfl (zY s 0 mX rF rfl (zm rfl ?_))
  have hlk:fC Tryz.prog h 215 di (.int .i64 n) false=some (.agg [.int .u64 (dirtOf π n 0:Nat),.bool (match lookL n π.aN with|some x=>x.2|none=>false)]):=by
   rcases D_ (n:=n) (s.ae [3]) with⟨g1,_,g2⟩|⟨x,g1,_,g2⟩
   ·rw[g2];simp only[dirtOf,g1];rfl
   ·rw[g2];simp only[dirtOf,g1]
  refine zo rfl (gX rfl rfl hlk) (zo rfl (Sj rfl (Sk (Ke _) rfl)) (zo rfl (dn rfl (by rw[X7];rfl)) ?_))
  obtain⟨rv,h1,uy,s1⟩:=kr (P:=Tryz.prog) (x:=.agg [.int .i64 n,.int .u64 (dirtOf π n 0:Nat)]) s yu FT LH rfl (by decide) (by decide) rfl rfl
  dsimp only[V.cells] at s1
  refine ay.any rfl rfl rfl (OpR.of (R:=fun v h'=>v=rv∧h'=h1) (mE rfl uy) ⟨rfl,rfl⟩) ?_
  rintro v h' ⟨rfl,rfl⟩
  obtain⟨i1,kI,jd,qj⟩:=E5
  have gW:(ks.take i).length≤1048576:=by simp;omega
  obtain⟨I,h2,tR,s2⟩:=iN (s1.ae [5,0]) yu kI FT jd (by omega) rfl (by decide) (by simp only[yA,bI,dz];omega)
  dsimp only[bringA,getA,aQ] at s2
  refine ay.any rfl rfl rfl (OpR.of (R:=fun v h'=>v=I∧h'=h2) (mD rfl rfl tR) ⟨rfl,rfl⟩) ?_
  rintro v h' ⟨rfl,rfl⟩
  refine za rfl (zv (zr rfl (zb rfl (by exact bP (aV (by omega) (by omega))) ?_)))
  refine zm rfl (zv ?_)
  have s3:=dx.2 ⟨cR,wh,di,s2.ae [2,2,2,2]⟩
  have s4:=(s3.del 2).ae [1,0,0]
  refine ih (i+1) _ _ _ _ (by omega) ?_ ⟨rfl,rfl,rfl,rfl,rfl,aa⟩ hx
  rw[J,Oe]
  exact s4
theorem QG (I:W told)(s:Sat h (cq r p q π::S))(hm:π.aN.length≤1048576)(hk:∀n∈π.aN.map (·.1),(Lit.int .i64 n).wf=true):
  Call ⟨Tryz.prog,told⟩ 111 [.ptr r 0] h fun v h'=>Sat h' (.arr 2 v (dirtC π (az π.aN))::cq r p q π::S):=by
 obtain⟨cR,wh,di,s⟩:=dx.1 s
 obtain⟨J,rfl⟩:=yo s (j:=3) rfl
 have hl:(az π.aN).length=π.aN.length:=by rw[az,(en _).length_eq,iE]
 refine Call.of_wp (I.free _ rfl) Tryz.func111 rfl rfl (zK 8 rfl (zY s 0 mX rF rfl (zo rfl (aY rfl rfl rfl (Bb (s.ae [3]) rP)) ?_)))
 obtain⟨i1,U,jd,qj⟩:=E5
 obtain⟨av,h1,e1,s1⟩:=ur (P:=Tryz.prog) s yu U FT jd (by omega) rfl (by decide) (by decide) (n:=0) (c:=π.aN.length) (by omega) (by omega)
 dsimp only[repeatL] at s1
 refine ay.any rfl rfl rfl (OpR.of (R:=fun v h'=>v=av∧h'=h1) (rC rfl rfl e1) ⟨rfl,rfl⟩) ?_
 rintro v h' ⟨rfl,rfl⟩
 have s:=s1
 refine zk 7 rfl (zY s 1 mX rF rfl (zc rfl (QD I s) ?_))
 rintro v h ⟨b,rfl,s⟩
 refine zc rfl (pU I (s.ae [0,4]) (by decide) hm hk) ?_
 intro kv h s
 refine zo rfl (aY rfl rfl rfl (s.iG (n:=(az π.aN).length) (j:=0) rfl (by simp[eS]) (by decide) eC)) ?_
 refine zk 2 rfl (WP.block ?_)
 have s:=dx.2 ⟨cR,wh,.map J,s.ae [4,4,4,2]⟩
 have s:=(s.del 2).ae [2,0,0]
 refine L3 I (π:=π) (ks:=az π.aN) (by omega) (az π.aN).length 0 _ _ _ _ (by omega) s ⟨rfl,rfl,rfl,rfl,rfl,aa⟩ (fun CK E' h' h2 s' => ?_)
 exact WP.has (F:=[(3,CK)]) ⟨h2,aa⟩ (zK 5 rfl (WP.ret ⟨aa,_,rfl,s'⟩))
end
def Hj (ax:Nat)(Q:Ex→List (Nat×V)→H→Prop)(c:Ctx)(a:Act)(w:World)(e:Exit)(J:Act)(w':World): Prop :=
 ∃ex I h' E',e=exOf ex∧kx I E'∧Q ex E' h'∧J.defers=a.defers∧∃c',Rel c' h' w'∧fD c' I ax J∧dH c w c' w'
def WPO (C:gy)(ax:Nat)(code:Code)(E:List (Nat×V))(h:H)(Q:Ex→List (Nat×V)→H→Prop): Prop :=
 ∀(c:Ctx) (a:Act) (w:World) (env:Env),kx env E→Rel c h w→fD c env ax a→code.wpIn (Fr none) 0 C.P (Hj ax Q c a w) a w
section
variable {C:gy} {ax:Nat} {Q':Ex→List (Nat×V)→H→Prop} {a b:Code}
theorem Hj.trans {c₁:Ctx}{A I a':Act}{J w':World}{e:Exit}(hd:I.defers=A.defers)(hs:dH c w c₁ J)(ho:Hj ax Q c₁ I J e a' w'): Hj ax Q c A w e a' w':=by
 obtain⟨ex,U,h',E',h1,h2,h3,h4,c',h5,h6,h7⟩:=ho
 exact⟨ex,U,h',E',h1,h2,h3,h4.trans hd,c',h5,h6,hs.trans h7⟩
theorem WPO.of (hm:C.P.follows .mixedOrders=true)(J:ig C)(hw:WP C ax a E h Q): WPO C ax a E h Q:=by
 intro c A w env U hr he
 obtain⟨N,ex,I,h',E',h1,h2,h3⟩:=hw env U
 refine wpIn_mono ((GB hm J N).1 _ _ _ _ h1 none c A w hr he) ?_
 rintro e a' w' ⟨rfl,h4,c',h5,h6,h7⟩
 exact⟨ex,I,h',E',rfl,h2,h3,h4,c',h5,h6,h7⟩
theorem WPO.mono (hw:WPO C ax a E h Q)(J:∀ex E' h',Q ex E' h'→Q' ex E' h'): WPO C ax a E h Q':=by
 intro c A w env U hr he
 refine wpIn_mono (hw c A w env U hr he) ?_
 rintro e a' w' ⟨ex,I,h',E',h1,h2,h3,h4⟩
 exact⟨ex,I,h',E',h1,h2,J _ _ _ h3,h4⟩
theorem WPO.seq (hw:WPO C ax a E h fun ex E' h'=>match ex with
  |.normal=>WPO C ax b E' h' Q
  |ex=>Q ex E' h'): WPO C ax (.seq a b) E h Q:=by
 intro c A w env hE hr he
 refine wpIn_seq (wpIn_mono (hw c A w env hE hr he) ?_)
 rintro e J U ⟨ex,I,h',E',rfl,h2,h3,h4,c₁,h5,h6,h7⟩
 cases ex with
 |normal=>exact wpIn_mono (h3 c₁ J U I h2 h5 h6) fun e a' w' ho=>ho.trans h4 h7
 |exit i=>exact⟨_,I,h',E',rfl,h2,h3,h4,c₁,h5,h6,h7⟩
 |ret=>exact⟨_,I,h',E',rfl,h2,h3,h4,c₁,h5,h6,h7⟩
theorem WPO.cond {x:Operand}{t:Bool}(J:bl E x=some (.bool t))(hw:WPO C ax (_root_.cond t a b) E h Q): WPO C ax (.cond x a b) E h Q:=by
 intro c A w env I U he
 obtain⟨e1,_⟩:=F_ he (bU I J)
 refine wpIn_cond (t:=t) (by rw[e1];rfl) ?_
 have:=hw c A w env I U he
 cases t<;>simpa using this
theorem WPO.block (hw:WPO C ax b E h fun ex E' h'=>match ex with
  |.exit j=>_root_.cond (Nat.beq j i) (Q .normal E' h') (Q (.exit j) E' h')
  |ex=>Q ex E' h'): WPO C ax (.block i b) E h Q:=by
 intro c A w env hE hr he
 refine wpIn_block (wpIn_mono (hw c A w env hE hr he) ?_)
 rintro e IT Fy ⟨ex,I,h',E',rfl,U,J,h4,c₁,h5,h6,h7⟩
 cases ex with
 |normal=>simp only[exOf,Exit.inBlock];exact⟨.normal,I,h',E',rfl,U,J,h4,c₁,h5,h6,h7⟩
 |exit j =>
  by_cases hj:j=i
  ·simp only[qO hj,ak] at J
   simp only[exOf,Exit.inBlock,hj,c_]
   exact⟨.normal,I,h',E',rfl,U,J,h4,c₁,h5,h6,h7⟩
  ·simp only[eF hj,bf] at J
   simp only[exOf,Exit.inBlock,hj,fH]
   exact⟨.exit j,I,h',E',rfl,U,J,h4,c₁,h5,h6,h7⟩
 |ret=>simp only[exOf,Exit.inBlock];exact⟨.ret,I,h',E',rfl,U,J,h4,c₁,h5,h6,h7⟩
theorem WPO.loop (J:Nat→List (Nat×V)→H→Prop)(hJ:∀j E h,J j E h→WPO C ax b E h fun ex E' h'=>match ex with
  |.normal=>∃i,i<j∧J i E' h'
  |ex=>Q ex E' h')(h0:J j E h): WPO C ax (.loop b) E h Q:=by
 have key:∀m j E h,j<m→J j E h→∀(c:Ctx) (A:Act) (w:World) (env:Env) (R:Exit→Act→World→Prop),kx env E→Rel c h w→fD c env ax A →
   (∀e a' w',Hj ax Q c A w e a' w'→R e a' w')→Code.roundsIn (Fr none) 0 C.P b R m A w:=by
  intro m
  induction m with
  |zero=>intro j E h hj;omega
  |succ m ih =>
   intro j E h hj hJj c A w env R hE hr he hR
   rw[roundsIn_succ]
   refine wpIn_mono (hJ j E h hJj c A w env hE hr he) ?_
   rintro e U Fy ⟨ex,I,h',E',rfl,h2,h3,h4,c₁,h5,h6,h7⟩
   cases ex with
   |normal =>
    obtain⟨i,hi,h3⟩:=h3
    exact ih i E' h' (by omega) h3 c₁ U Fy I R h2 h5 h6 fun e a' w' ho=>hR _ _ _ (ho.trans h4 h7)
   |exit i=>exact hR _ _ _ ⟨_,I,h',E',rfl,h2,h3,h4,c₁,h5,h6,h7⟩
   |ret=>exact hR _ _ _ ⟨_,I,h',E',rfl,h2,h3,h4,c₁,h5,h6,h7⟩
 intro c A w env hE hr he
 exact wpIn_loop_rounds (j+1) (key (j+1) j E h (by omega) h0 c A w env _ hE hr he fun _ _ _ ho=>ho)
theorem Of {β:Type}{f:α→Option (List β)}{p:β→Prop}: ∀ {L:List α},(∀q∈L,∃s,f q=some [s]∧p s)→∃R,flatM f L=some R∧∀s∈R,p s:=by
 intro L
 induction L with
 |nil=>intro _;exact⟨[],rfl,fun s hs=>by cases hs⟩
 |cons q L U =>
  intro J
  obtain⟨R,h1,h2⟩:=U fun q I=>J q (b9 _ I)
  obtain⟨s,e1,e2⟩:=J q cn
  refine⟨s::R,?_,fun s' hs => ?_⟩
  ·simp only[flatM,e1,h1,iU,eE]
  ·rcases List.mem_cons.1 hs with rfl|hs
   ·exact e2
   ·exact h2 s' hs
theorem WPO.next {I J:Oper}{x:Operand}{U QH:Nat}{L:List (V×H)}(hm:C.P.follows .mixedOrders=true)(hT:ig C)(ab3:I.guard=none)(aaI:J.guard=none)(aaJ:I.op=.next x false)(ab4:I.dst=some U)
 (Ws:J.op=.extract y 0)(hy:y=.tmp U)(ab5:J.dst=some QH)(XM:Nat.blt U ax=true)(UX:Nat.blt QH ax=true)(hx:bl E x=some (.ptr r 0))(hL:nextAll h r=some L)
 (hq:∀q∈L,∃t l,q.1=.bD (t::l)∧Q .normal ((QH,t)::(U,q.1)::E) q.2): WPO C ax (.region id #[I,J] false) E h Q:=by
 intro c A w env hE hr he
 subst hy
 have hS:=(GB (C:=C) hm hT 0).1
 refine wpIn_region ?_
 rw[List.range_eq_range',←Dj]
 have tE:∃R,opsAll C (ev C 0) (#[I,J]:Array Oper).toList (#[I,J]:Array Oper).toList ⟨env,ax,h⟩=some R∧∀s∈R,∃E',kx s.env E'∧s.ax=ax∧Q .normal E' s.h:=by
  have e1:∀Gq:Env,wantedV [I,J] Gq I=true:=fun Gq=>by simp only[wantedV,ab3]
  have e2:∀Gq:Env,wantedV [I,J] Gq J=true:=fun Gq=>by simp only[wantedV,aaI]
  have kV:=bU hE hx
  simp only[opsAll,e1,e2,ak,opAll,aaJ,kV,gx,hL]
  refine Of fun q AB => ?_
  obtain⟨t,l,k1,k2⟩:=hq q AB
  refine⟨⟨(env.set U (some q.1)).set QH (some t),ax,q.2⟩,?_,_,(hE.set U q.1).set QH t,rfl,k2⟩
  have hg:evO (T.set env U (some (V.bD (t::l)))) (.tmp U)=some (.bD (t::l)):=by simp only[evO,Env.v,bg,c_]
  simp only[St.put,ab4,XM,ak,Ws,evOp,k1,hg,nth,gx,bz,ab5,UX,flatM,cS]
 obtain⟨R,tE,h2⟩:=tE
 refine Ns hS hT _ 0 ⟨env,ax,h⟩ R c A w (fun j=>by rw[gw,lM]) tE hr he ?_
 intro s' Zt c' a' w' r1 r2 r3 r4
 obtain⟨E',e1,e2,e3⟩:=h2 s' Zt
 exact⟨.normal,s'.env,s'.h,E',rfl,e1,e3,r4,c',r1,by rw[e2] at r2;exact r2,r3⟩
theorem fT.CM {f:FuncId}{fn:Func}{code:Code}{args:List V}{v:V}{ee:H}(hf:C.P.funcs[f]?=some fn)(hb:fn.body=some code)(hn:args.length≤fn.ntmps)
 (hw:WPO C fn.ntmps code (argE args 0) h fun ex E' h'=>(match ex with|.exit _=>False|_=>True)∧resLE C.P E' h' fn.results.toList=some v∧ee.next=h'.next∧∀id o,T.get ee.tr id=some o→T.get h'.tr id=some o)(hr:Rel c h w)(ha:∀x∈args,wf c x): fT C.P f args c w v ee:=by
 have Ln:=qb (c:=c) hn ha
 have Vj:=hw c _ w _ (Aa args) hr Ln
 unfold fT
 refine calls_of_wp hf hb (wpIn_wide.1 (wpIn_mono Vj ?_))
 rintro e a' w' ⟨ex,Wu,h',E',rfl,fW,⟨hx,I,EZ,hle⟩,hd,c',r1,r2,r3⟩
 have fin:a'.defers=[]∧∃x,(results fn a'.tmps).run C.P w'=.ok x w'∧∃U,Ending.returned x=.returned (conc U v)∧wf U v∧Rel U ee w'∧dH c w U w':=by
  refine⟨hd,?_⟩
  unfold resLE at I
  cases M8:mapO (resE C.P E' h') fn.results.toList with
  |none=>simp[M8] at I
  |some vs =>
   rw[M8] at I
   have GC:=DO (P:=C.P) (s:=⟨Wu,fn.ntmps,h'⟩) fW M8
   obtain⟨t1,t2⟩:=sH (s:=⟨Wu,fn.ntmps,h'⟩) r1 r2 GC
   refine⟨_,t1,c',?_⟩
   have J:=r1.XX EZ hle
   match vs,I with
   |[],I =>
    simp at I
    subst I
    refine⟨?_,by simp[wf,gK],J,r3⟩
    simp[conc,concL]
   |[x],I =>
    simp at I
    subst I
    exact⟨by simp,t2 _ (by simp),J,r3⟩
   |x::y::l,I =>
    simp at I
    subst I
    refine⟨?_,by simp only[wf,kj];exact t2,J,r3⟩
    rw[dif_neg (by simp)]
    simp[conc,iB,concL]
 cases ex with
 |normal=>simpa[bodyPost,exOf] using fin
 |exit i=>exact hx.elim
 |ret=>simpa[bodyPost,exOf] using fin
end
end Go.Proofs.YtiojppeahfoiaaaGreat.Am
