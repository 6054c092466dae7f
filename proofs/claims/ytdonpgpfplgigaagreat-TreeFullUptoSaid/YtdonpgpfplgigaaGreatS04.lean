/- TreeFull: a part of its proof; conditions: its statement's. -/
import Derived.Test.YtdonpgpfplgigaaGreatS02
import Derived.Test.YtdonpgpfplgigaaGreatS03
set_option linter.defProp false
namespace Go.Proofs.YtdonpgpfplgigaaGreat.Am
open Go Go.Maps Go.Sort Go.Shelf Go.RowKit
def aQ:=@Tryz.underlying98
def j9:=@Tryz.underlying32
def mu:=@Tryz.underlying45
def F7:=@Tryz.underlying213
def B2:=@Tryz.underlying211
def KT:=@Tryz.underlying269
def KU:=@Tryz.underlying278
def KV:=@Tryz.func20
abbrev af {α:Type}:Option α:=none
variable {X:aE} {C:gO} {Q:Ex->List (Nat×V)->H->Prop} {h:H} {kd pg:Int} {now:List (Int×List Nat)} {E:List (Nat×V)} {S:List aE} {l b data:List Nat} {cs post args:List V} {g n k i size bj a d z p6 id off q j tx pv nx j1 j2 p1 r dX aR:Nat} {y:Operand} {P:Program} {α:Type} {t e:TypeId} {x u bv dt w v' wh di:V}
theorem adw (m:Nat): AnyZI.SortsIn Tryz.prog Tryz.sorted61_ren Fence.wide m :=
 ⟨λo8 off cap ss W hH I gm=>callsIn_wide.2 (AnyM.slices_Sort_int Tryz.sort143 o8 off cap ss W hH I gm),
  λp cap W=>callsIn_wide.2 (AnyM.slices_Sort_int_none Tryz.sort143 p cap W)⟩
theorem Om (eg:∀args w,(callFunc g args).run Tryz.prog w=.ok (.enter g args) w){Bm:Nat}{D0:DataW Unit}{w:World}(k9:Maps.size D0<=maxLen)(I:Maps.size D0*8<=140737488355328)
 (aez:SeqGives Fence.wide 2 Tryz.prog g #[.pointer (some ⟨Bm,0,none⟩)] encZ (λss=>ss.Perm (intKeys D0)) (Maps.size D0) w):
  Calls Tryz.prog 61 #[.func (.func g) #[] #[.pointer (some ⟨Bm,0,none⟩)]] w λe w'=>∃(v:Value) (ss:List Int),e=.returned v/\ss.Perm (intKeys D0) /\
   w'.ownsRow w.heap.size 3 1 v ss.length ((ss.mergeSort (λx y=>decide (x<=y))).map encZ)/\(v=.slice none 0 0↔ss=[])/\Below w.heap.size w w' :=
 (callsIn_wide (n:=5)).1 (AnyZI.sorted_in Tryz.sorted61 Fence.wide 5 aa aa aa aa U (by omega) (adw _) (enters_of Tryz.func143 (by rfl) U) g _ aa eg _ _ k9 I _ aez)
def DL : List Nat:=[144,205]
theorem SK : IT Tryz.prog 61 3 DL:=by
 intro g hg Bm b nn D0 w hB hm PY k9 I;simp only[DL,gd,jQ,mM] at hg;rcases hg with rfl|rfl
 .exact Om (enters_of Tryz.func144 (by rfl) U) k9 I (AnyZI.keys_gives (ρ:=Tryz.keys62_ren) { Tryz.keys62 with } Fence.wide _ aa U (by omega) Bm b nn D0 w hB hm PY)
 .exact Om (enters_of Tryz.func205 (by rfl) U) k9 I (AnyZI.keys_gives (ρ:=Tryz.keys169_ren) { Tryz.keys169 with } Fence.wide _ aa U (by omega) Bm b nn D0 w hB hm PY)
end Go.Proofs.YtdonpgpfplgigaaGreat.Am
namespace Go.Proofs.YtdonpgpfplgigaaGreat.Am
open Go
variable {X:aE} {C:gO} {Q:Ex->List (Nat×V)->H->Prop} {h:H} {kd pg:Int} {now:List (Int×List Nat)} {E:List (Nat×V)} {S:List aE} {l b data:List Nat} {cs post args:List V} {g n k i size bj a d z p6 id off q j tx pv nx j1 j2 p1 r dX aR:Nat} {y:Operand} {P:Program} {α:Type} {t e:TypeId} {x u bv dt w v' wh di:V}
def KW : List Nat:=[189,209,210,191,190,200,192,140]
structure Std (told:cu): Prop where
 free:∀f,inL KW f=true->told f=none
 more:told 211=some toldMore
theorem wrap_u64 (h:n<18446744073709551616): IntKind.wrap .u64 (n:Int)=(n:Int):=by
 grind[IntKind.wrap,IntKind.bits,IntKind.signed]
theorem wrap_u8 (n:Nat): IntKind.wrap .u8 (n:Int)=((n%256:Nat):Int):=by
 rfl
def digits : Nat->Nat->List Nat
 |0,n=>[n%128]
 |k+1,n=>if n<128 then[n] else(n%128+128)::digits k (n/128)
set_option maxRecDepth 10000 in
theorem adx (h:n<256): Nat.lor n 128=n%128+128:=by
 have:∀m:Fin 256,Nat.lor m.1 128=m.1%128+128:=by decide
 exact this ⟨n,h⟩
theorem Qj (h:n<256): intV .or .u8 (n:Int) 128=some (.int .u8 ((n%128+128:Nat):Int)):=by
 have I:((n:Int)%(2^(IntKind.u8).bits:Int)).toNat=n:=by grind[IntKind.bits]
 have h2:((128:Int)%(2^(IntKind.u8).bits:Int)).toNat=128:=by rfl
 grind[intV,bitsV,adx,wrap_u8]
theorem aeA : shiftV .shr .u64 (n:Int) 7=some (.int .u64 ((n/128:Nat):Int)):=by
 grind[shiftV,IntKind.bits]
section
variable {told:cu}
noncomputable def vtX : Code:=unloop (unblk (leftC (eC ((Tryz.f209.body).getD .skip))))
theorem yj : convV Tryz.prog h 42 5 (.int .u64 (n:Int))=some (.int .u8 ((n%256:Nat):Int),h):=by
 simp[convV,wrap_u8]
theorem B3 (h:n<128): digits k n=[n]:=by
 cases k<;>grind[digits]
theorem F8 (hn:n<128)(I:look E 1=some (.int .u64 (n:Int)))
 (hq:Q (.exit 0) ((6,.bool false)::(5,.int .u64 (n:Int))::E) h): WP ⟨Tryz.prog,told⟩ 20 (.loop vtX) E h Q:=by
 refine WP.loop (WP.seq (WP.seq (WP.region U ?_)));refine zo U (b7 I) (zo U (aq (v:=.int .u64 (n:Int)) (u:=.int .u64 128) (r:=.bool false) U U (by simp only[binV,ikBeq,ag,intV];congr 2;simp;omega)) ?_);exact au.nil (WP.cond (t:=false) U (WP.exit hq))
theorem Na : ∀(k n:Nat) (l:List Nat) (s:V) (h:H) (E:List (Nat×V)) (Q:Ex->List (Nat×V)->H->Prop),nQ h->lF h s l->n<128^(k+1)->k<=9->l.length+k+1<=140737488355328 ->
  look E 0=some s->look E 1=some (.int .u64 (n:Int)) ->
  (∀E' h' s' l' (m:Nat),look E' 0=some s'->look E' 1=some (.int .u64 (m:Int))->m<128->l'++[m]=l++digits k n->lF h' s' l'->fK (2*k) (rowIds s) h h'->(∀i∈rowIds s',i∈rowIds s\/h.next<=i)->Q (.exit 0) E' h') ->
  WP ⟨Tryz.prog,told⟩ 20 (.loop vtX) E h Q:=by
 intro k;induction k with
 |zero =>
  intro n l s h E Q hw hs hn _ _ h0 h1 hq;have I:n<128:=by omega
  exact F8 I h1 (hq _ h s l n h0 h1 I (by rw[B3 I]) hs (fK.refl hw _) (λi hi=>.inl hi))
 |succ k ih =>
  intro n l s h E Q hw hs hn hk hl h0 h1 hq;by_cases I:n<128
  .exact F8 I h1 (hq _ h s l n h0 h1 I (by rw[B3 I]) hs ((fK.refl hw _).mono (gh _) (λ_ h=>h)) (λi hi=>.inl hi))
  .have hd:n/128<128^(k+1):=by
    omega
   refine WP.loop (WP.seq (WP.seq (WP.region U ?_)));refine zo U (b7 h1) (zo U (aq (v:=.int .u64 (n:Int)) (u:=.int .u64 128) (r:=.bool true) U U (by simp only[binV,ikBeq,ag,intV];congr 2;simp;omega)) ?_);refine au.nil (WP.cond (t:=true) U (WP.skip ?_));refine WP.block (WP.seq (WP.region U ?_));refine zo U (b7 h0) (zo U (b7 h1) (zo U (cS (v:=.int .u64 (n:Int)) U yj) (zo U (aq (v:=.int .u8 ((n%256:Nat):Int)) (u:=.int .u8 128) (r:=.int .u8 ((n%256%128+128:Nat):Int)) U U (by exact Qj (by omega))) ?_)));refine au.P4 (b:=n%256%128+128) U hw U U U U U U (by omega) (λv h₁ b1 k1 f1 => ?_);have ej:lF h₁ s l:=hs.qA hw k1 (λi _=>jQ);refine au.app (s:=s) (x:=v) U k1.wf U U U U U U U ej b1.view (by grind) (λv2 ady b2 k2 f2 => ?_);have kW:fK 2 (rowIds s) h ady:=(k1.mono (aH _) (λi hi=>by grind)).trans k2 (λi hi=>.inl hi);refine za U ?_;refine au.nil (WP.region U ?_);refine zo U (b7 h1) (zo U (aq (v:=.int .u64 (n:Int)) (u:=.int .u64 7) (r:=.int .u64 ((n/128:Nat):Int)) U U aeA) (zk 2 U ?_));refine ih (n/128) (l++[n%256%128+128]) v2 ady _ Q kW.wf b2 hd (by omega) (by grind) U U (λE' h' s' l' m q1 q2 q3 q4 q5 q6 q7 => ?_);refine hq E' h' s' l' m q1 q2 q3 ?_ q5 ?_ (λi hi => ?_)
   .grind[digits]
   .exact(kW.trans q6 (λi hi=>(f2 i hi).imp_right (λh=>cN k1.le h))).mono (by omega) (λi hi=>hi)
   .rcases q7 i hi with h3|h3
    .exact(f2 i h3).imp_right (λh=>cN k1.le h)
    .exact .inr (cN kW.le h3)
theorem I3 (hT:Std told){s:V}(hw:nQ h)(hs:lF h s l)(hn:n<128^(k+1))(hk:k<=9)(hl:l.length+k+1<=140737488355328):
  Call ⟨Tryz.prog,told⟩ 209 [s,.int .u64 (n:Int)] h λv h'=>lF h' v (l++digits k n)/\fK (2*k+2) (rowIds s) h h'/\∀i∈rowIds v,i∈rowIds s\/h.next<=i:=by
 refine Call.of_wp (hT.free _ U) Tryz.func209 U U ?_;refine WP.seq (WP.region U (au.op U U U (iV U) (au.nil ?_)));refine WP.seq (WP.block ?_);refine Na k n l s h _ _ hw hs hn hk hl U U (λE' h' s' l' m q1 q2 q3 q4 q5 I q7 => ?_);have D8:l'.length=l.length+(digits k n).length-1:=by
  have:=dg List.length q4;simp at this;omega
 have xC:∀(k n:Nat),(digits k n).length<=k+1:=by
  intro k;induction k<;>grind[digits]
 have age:=xC k n;refine WP.seq (WP.region U ?_);refine zo U (b7 q1) (zo U (b7 q2) (zo U (cS (v:=.int .u64 (m:Int)) U yj) ?_));refine au.P4 (b:=m%256) U I.wf U U U U U U (by omega) (λv h₁ b1 k1 f1 => ?_);have ej:lF h₁ s' l':=q5.qA I.wf k1 (λi _=>jQ);refine au.app (s:=s') (x:=v) U k1.wf U U U U U U U ej b1.view (by grind) (λv2 ady b2 k2 f2 => ?_);refine za U ?_;refine au.nil (WP.ret ?_);refine⟨aa,v2,U,?_,?_,λi hi => ?_⟩
 .grind
 .refine((I.trans k1 (λi hi=>by grind)).trans k2 (λi hi => ?_)).mono (by omega) (λi hi=>hi)<;>grind
 .rcases f2 i hi with h3|h3
  .grind
  .exact .inr (by have:=I.le;have:=k1.le;omega)
theorem KX (I:n<18446744073709551616): convV Tryz.prog h 3 42 (.int .i64 (n:Int))=some (.int .u64 (n:Int),h):=by
 simp_all[convV,wrap_u64]
theorem iP : ∀(k n:Nat),(digits k n).length<=k+1:=by
 intro k;induction k<;>grind[digits]
theorem ZE (I:Std told){s:V}{m:List Nat}(hw:nQ h)(hs:lF h s l)(hx:View h x m)(hd:∀i∈rowIds x,i∉rowIds s)(hn:m.length<128^(k+1))(hk:k<=9)(hl:l.length+k+1+m.length<=140737488355328):
  Call ⟨Tryz.prog,told⟩ 210 [s,x] h λv h'=>lF h' v (l++digits k m.length++m)/\fK (2*k+3) (rowIds s) h h'/\∀i∈rowIds v,i∈rowIds s\/h.next<=i:=by
 refine Call.of_wp (I.free _ U) Tryz.func210 U U ?_;refine WP.seq (WP.region U (au.op U U U (iV U) (au.nil ?_)));refine WP.seq (WP.region U ?_);refine zk 2 U (zo U (aD (v:=x) U U U hx.len) (zo U (cS (v:=.int .i64 (m.length:Int)) U (KX (by omega))) ?_));refine au.call U U U U U U U (I3 I (k:=k) hw hs hn hk (by omega)) (λv h₁ ⟨b1,k1,f1⟩ => ?_);refine zm U ?_;have xC:=iP k m.length;refine au.app (s:=v) (x:=x) U k1.wf U U U U U U U b1 (hx.qA hw k1 hd) (by grind) (λv2 ady b2 k2 f2 => ?_);refine au.op U U U (iV U) (au.nil (WP.ret ?_));refine⟨aa,v2,U,b2,(k1.trans k2 f1).mono (by omega) (λi hi=>hi),λi hi => ?_⟩;rcases f2 i hi with h3|h3
 .grind
 .exact .inr (cN k1.le h3)
def le : Nat->Nat->List Nat
 |0,_=>[]
 |k+1,n=>(n%256)::le k (n/256)
theorem cQ : ∀(k n:Nat),(le k n).length=k:=by
 intro k;induction k<;>grind[le]
theorem Qk : ∀(k n:Nat),∀b∈le k n,b<256:=by
 intro k;induction k with
 |zero=>intro n b I;cases I
 |succ k ih =>
  intro n b I;rcases List.mem_cons.1 I with rfl|I<;>grind
noncomputable def lyX : Code:=unloop (unblk (eC (leftC (eC ((Tryz.f189.body).getD .skip)))))
theorem aeB (hi:i<=8): shiftV .shr .u64 (n:Int) ((8*i:Nat):Int)=some (.int .u64 ((n/256^i:Nat):Int)):=by
 simp only[shiftV,IntKind.bits,fI];rw[show min (8*i) 64=8*i by omega,show decide (((8*i:Nat):Int)<0)=false by rfl,aT];rw[Int.fdiv_eq_ediv_of_nonneg _ (Int.pow_nonneg (by omega))];rw[show(256:Nat)^i=2^(8*i) by rw[Nat.pow_mul]]
 push_cast
 rfl
theorem VO (gm:size<=8): ∀(j i:Nat) (l:List Nat) (s:V) (h:H) (E:List (Nat×V)) (Q:Ex->List (Nat×V)->H->Prop),nQ h->lF h s l->i+j=size->l.length+j<=140737488355328 ->
  look E 0=some s->look E 2=some (.int .u64 (n:Int))->look E 8=some (.int .i64 (size:Int))->look E 9=some (.int .i64 (i:Int)) ->
  (∀E' h' s',look E' 0=some s'->lF h' s' (l++le j (n/256^i))->fK (2*j) (rowIds s) h h'->(∀i∈rowIds s',i∈rowIds s\/h.next<=i)->Q (.exit 0) E' h') ->
  WP ⟨Tryz.prog,told⟩ 22 (.loop lyX) E h Q:=by
 intro j;induction j with
 |zero =>
  intro i l s h E Q hw hs hi _ h0 h2 h8 h9 hq;refine WP.loop (WP.seq (WP.region U ?_));refine zo U (aq (v:=.int .i64 (i:Int)) (u:=.int .i64 (size:Int)) (r:=.bool false) h9 h8 (by simp_all[binV,ikBeq,intV])) ?_;refine au.nil (WP.seq (WP.cond (t:=false) U (WP.exit ?_)));exact hq _ h s h0 (by simpa[le] using hs) (fK.refl hw _) (λi hi=>.inl hi)
 |succ j ih =>
  intro i l s h E Q hw hs hi hl h0 h2 h8 h9 hq;refine WP.loop (WP.seq (WP.region U ?_));refine zo U (aq (v:=.int .i64 (i:Int)) (u:=.int .i64 (size:Int)) (r:=.bool true) h9 h8 (by simp only[binV,ikBeq,ag,intV];congr 2;simp;omega)) ?_;refine au.nil (WP.seq (WP.cond (t:=true) U (WP.skip ?_)));refine WP.seq (WP.block (WP.seq (WP.region U ?_)));refine zo U (b7 h9) ?_;refine au.op U U U (iV U) (au.nil (WP.region U ?_));refine zo U (b7 h0) (zo U (b7 h2) (zm U ?_));refine au.op U U U (aq (v:=.int .i64 8) (u:=.int .i64 (i:Int)) (r:=.int .i64 ((8*i:Nat):Int)) U U (by
   simp only[binV,ikBeq,ag,intV];rw[show(8:Int)*(i:Int)=((8*i:Nat):Int) by rfl,wrap_i64 (by omega)])) ?_
  refine zo U (aq (v:=.int .u64 (n:Int)) (u:=.int .i64 ((8*i:Nat):Int)) (r:=.int .u64 ((n/256^i:Nat):Int)) U U (by exact aeB (by omega))) ?_;refine zo U (cS (v:=.int .u64 ((n/256^i:Nat):Int)) U yj) ?_;refine au.P4 (b:=n/256^i%256) U hw U U U U U U (by omega) (λv h₁ b1 k1 f1 => ?_);have ej:lF h₁ s l:=hs.qA hw k1 (λi _=>jQ);refine au.app (s:=s) (x:=v) U k1.wf U U U U U U U ej b1.view (by grind) (λv2 I b2 k2 f2 => ?_);have kW:fK 2 (rowIds s) h I:=(k1.mono (aH _) (λi hi=>by grind)).trans k2 (λi hi=>.inl hi);refine au.op U U U (iV U) (au.nil (WP.region U ?_));refine zo U (aq (v:=.int .i64 (i:Int)) (u:=.int .i64 1) h9 U (by simp only[binV,ikBeq,ag];exact BI (by omega))) ?_;refine au.op U U U (b7 U) (au.nil ?_);refine ih (i+1) (l++[n/256^i%256]) v2 I _ Q kW.wf b2 (by omega) (by grind) U h2 h8 U (λE' h' s' q1 q2 q3 q4 => ?_);refine hq E' h' s' q1 ?_ ?_ (λi hi => ?_)
  .grind[Nat.div_div_eq_div_mul,le]
  .exact(kW.trans q3 (λi hi=>(f2 i hi).imp_right (λh=>cN k1.le h))).mono (by omega) (λi hi=>hi)
  .rcases q4 i hi with h3|h3
   .exact(f2 i h3).imp_right (λh=>cN k1.le h)
   .exact .inr (cN kW.le h3)
theorem SL (hT:Std told){s:V}(hw:nQ h)(hs:lF h s l)(I:size<=8)(hl:l.length+size<=140737488355328):
  Call ⟨Tryz.prog,told⟩ 189 [s,.int .i64 (size:Int),.int .u64 (n:Int)] h λv h'=>lF h' v (l++le size n)/\fK (2*size) (rowIds s) h h'/\∀i∈rowIds v,i∈rowIds s\/h.next<=i:=by
 refine Call.of_wp (hT.free _ U) Tryz.func189 U U ?_;refine WP.seq (WP.region U (au.op U U U (iV U) (au.nil ?_)));refine WP.seq (WP.seq (WP.region U ?_));refine zm U ?_;refine au.op U U U (b7 U) (au.nil (WP.block ?_));refine VO I size 0 l s h _ _ hw hs (by omega) hl U U U U (λE' h' s' q1 q2 q3 q4 => ?_);refine WP.seq (WP.region U ?_);refine zo U (b7 q1) ?_;refine au.op U U U (iV U) (au.nil (WP.ret ?_));exact⟨aa,s',U,by grind,q3,q4⟩
theorem Ql : ∀(l:List Nat),(∀b∈l,b<256)->bytesIn (ofBytes l)=some l:=by
 intro l;induction l<;>grind[List.mem_cons_self,bytesIn,ofBytes]
def Ez (s:Nat)(l:List Nat): Nat:=Nat.xor (crcL (Nat.xor s 4294967295) l) 4294967295
theorem HX {s:Nat}(hs:s<4294967296)(hl:∀b∈l,b<256): Ez s l<4294967296:=qI (HK l _ (qI hs) hl)
theorem On (hT:Std told){s:Nat}(hx:View h x l)(hl:l.length<=4611686018427387904)(hs:s<4294967296):
  iS ⟨Tryz.prog,told⟩ 211 [.int .u32 (s:Int),x] h (.int .u32 (Ez s l:Nat)) h:=by
 refine iS.told hT.more FE U ?_;have I:=hx;obtain⟨hb,I⟩:=I;rcases I with⟨rfl|⟨ea,rfl⟩,rfl⟩|⟨id,off,cap,n,cs,st,rfl,hg,h1,h2,h3,h4⟩
 .simp only[toldMore];rw[show(decide ((0:Int)<=(s:Int))&&decide ((s:Int)<4294967296))=true by grind];rfl
 .simp only[toldMore];rw[show(decide ((0:Int)<=(s:Int))&&decide ((s:Int)<4294967296))=true by grind];rfl
 .simp only[toldMore];rw[show(decide ((0:Int)<=(s:Int))&&decide ((s:Int)<4294967296)&&Nat.ble l.length 4611686018427387904)=true by simp[aS];omega,ag,(View.rdN hx).2];simp only[Ql l hb];rfl
theorem adz (I:Std told)(hx:View h x l)(hl:l.length<=4611686018427387904):
  Call ⟨Tryz.prog,told⟩ 200 [x] h λv h'=>v=.int .u32 (Ez 0 l:Nat)/\h'=h:=by
 refine Call.of_wp (I.free _ U) Tryz.func200 U U ?_;refine WP.seq (WP.region U (au.op U U U (iV U) (au.nil ?_)));refine WP.seq (WP.region U ?_);refine zm U ?_;refine au.call (BG:=λv h'=>v=.int .u32 (Ez 0 l:Nat)/\h'=h) U U U U U U U ⟨_,_,On (s:=0) I hx hl (by omega),U,U⟩ (λv h₁ ⟨e1,e2⟩ => ?_);subst e1;subst e2;exact au.op U U U (iV U) (au.nil (WP.ret ⟨aa,_,U,U,U⟩))
def F9 (bj:Nat)(l:List Nat): Nat:=Ez (Ez 0 (le 8 bj)) l
theorem VQ (hl:∀b∈l,b<256): F9 bj l<4294967296:=HX (HX (by omega) (Qk 8 bj)) hl
theorem SM (hT:Std told)(hw:nQ h)(hx:View h x l)(hl:l.length<=4611686018427387904):
  Call ⟨Tryz.prog,told⟩ 192 [.int .u64 (bj:Int),x] h λv h'=>v=.int .u32 (F9 bj l:Nat)/\fK 16 [] h h':=by
 refine Call.of_wp (hT.free _ U) Tryz.func192 U U ?_;refine WP.seq (WP.region U (au.op U U U (iV U) (au.nil ?_)));refine WP.seq (WP.region U ?_);refine zm U ?_;refine au.call U U U U U U U (SL (size:=8) (s:=.aZ) (l:=[]) (n:=bj) hT hw ⟨by simp,.inl ⟨U,U⟩⟩ (by omega) (by simp)) (λv h₁ ⟨b1,k1,f1⟩ => ?_);rw[dL] at b1;refine au.call U U U U U U U (adz hT b1.view (by rw[cQ];omega)) (λv2 I ⟨e1,e2⟩ => ?_);subst e1;subst e2;refine zm U ?_;refine au.call (BG:=λv h'=>v=.int .u32 (F9 bj l:Nat)/\h'=I) U U U U U U U
  ⟨_,_,On (s:=Ez 0 (le 8 bj)) hT (hx.qA hw k1 (λi _ hi=>by simp[rowIds] at hi)) hl (HX (by omega) (Qk 8 bj)),U,U⟩ (λv3 afN ⟨e3,e4⟩ => ?_)
 subst e3;subst e4;exact au.op U U U (iV U) (au.nil (WP.ret ⟨aa,_,U,U,k1.mono (aH _) (λi hi=>by simp[rowIds] at hi)⟩))
end
def abM : List Nat:=[]
def abN : List Nat:=[32]
def abO : List Nat:=[]
def abP : List Nat:=[]
def abQ : List Nat:=[]
def abR : List Nat:=[116,52]
def KY : List Nat:=abM++(abN++(abO++(abP++(abQ++(abR++[211,61,206,171,172])))))
structure W (told:cu): Prop where
 free:∀f,inL KY f=false->told f=none
 more:told 211=some toldMore
 sorted:told 61=some (toldSorted DL)
theorem W.Yg {told:cu}(I:W told): Std told:=by
 refine⟨λf hf=>I.free f ?_,I.more⟩;have:∀f∈KW,inL KY f=false:=by decide
 grind[RR]
def zu (v:V): Option (List Nat)->aE
 |none=>.pu (v=.aZ)
 |some b=>.an (.pu (v≠.aZ)) (.b8 v b)
theorem aI.zu (v:V)(o:Option (List Nat)): aI (Am.zu v o):=by
 cases o with
 |none=>exact aI.pu _
 |some b=>exact aI.an (aI.pu _) (aI.b8 _ _)
def each {α:Type}(f:V->α->aE): List V->List α->aE
 |[],[]=>.pu True
 |v::l,x::m=>.an (f v x) (each f l m)
 |_,_=>.pu False
theorem aI.each {f:V->α->aE}(I:∀v x,aI (f v x)): ∀(l:List V) (m:List α),aI (Am.each f l m):=by
 intro l;induction l with
 |nil=>intro m;cases m<;>exact aI.pu _
 |cons v l ih=>intro m;cases m with
  |nil=>exact aI.pu _
  |cons x m=>exact aI.an (I _ _) (ih m)
section
variable {f:V->α->aE} {a b:PM}
theorem EA : ∀ {l:List V} {m:List α},(each f l m).p a b->l.length=m.length:=by
 intro l;induction l with
 |nil=>intro m h;cases m with
  |nil=>rfl
  |cons x m=>exact h.elim
 |cons v l I=>intro m h;cases m with
  |nil=>exact h.elim
  |cons x m=>simp only[aW,I h.2]
theorem KZ : ∀ {l:List V} {m:List α} {i:Nat} {v:V} {x:α},(each f l m).p a b->l[i]?=some v->m[i]?=some x->(f v x).p a b:=by
 intro l;induction l with
 |nil=>simp
 |cons u l ih=>intro m i v x h hv I;cases m with
  |nil=>grind
  |cons y m =>
   cases i with
   |zero=>simp at hv I;subst hv;subst I;exact h.1
   |succ i=>exact ih h.2 hv I
theorem Av : ∀ {l:List V} {m:List α} {I:List V} {m':List α},(each f l m).p a b->(each f I m').p a b->(each f (l++I) (m++m')).p a b:=by
 intro l;induction l with
 |nil=>intro m I m' h hv;cases m with
  |nil=>exact hv
  |cons x m=>exact h.elim
 |cons u l ih=>intro m I m' h hv;cases m with
  |nil=>exact h.elim
  |cons y m=>exact⟨h.1,ih h.2 hv⟩
theorem Oo {us:List V}{cs:List α}{c:α}(hf:∀v x,aI (f v x))(s:Sat h (each f us cs::S))(I:cs[i]?=some c): ∃u,us[i]?=some u/\Sat h (f u c::each f us cs::S):=by
 obtain⟨a,b,q1,q2,q3⟩:=s.at (k:=0) U;have hl:=EA q3;have hi:=(List.getElem?_eq_some_iff.1 I).1;have hu:us[i]?=some (us[i]'(by omega)):=aF _;exact⟨_,hu,(s.dup (aI.each hf _ _)).dM λa b h=>KZ h hu I⟩
end
abbrev Wr := Nat×List Nat
structure Dk where
 room:Nat
 bI:List (Option (List Nat))
 waiting:List Wr
 now:List (Int×List Nat)
 log:List Nat
 gS:Nat
 mark:List Nat
 cV:Int
 dead:Bool
 HY:Option Wr
 tail:List Nat
variable {δ:Dk}
def SN (room:Nat)(pg wt nw lg:V)(I:Nat)(mk:V)(fu ops:Int)(dead:Bool)(tn tl:V): List V :=
 [.int .i64 (room:Int),pg,wt,nw,lg,.int .i64 (I:Int),mk,.int .i64 fu,.int .i64 ops,.bool dead,tn,tl]
def F_ : List V->List Wr->aE
 |[],[]=>.pu True
 |p::v::l,x::m=>.an (.an (.pu (p=.int .i64 (x.1:Int)/\v≠.aZ)) (.b8 v x.2)) (F_ l m)
 |_,_=>.pu False
theorem aI.wr : ∀(m:List Wr) (l:List V),aI (F_ l m):=by
 intro m;induction m with
 |nil=>intro l;cases l with
  |nil=>exact aI.pu _
  |cons v l=>cases l<;>exact aI.pu _
 |cons x m I=>intro l;cases l with
  |nil=>exact aI.pu _
  |cons v l=>cases l with
   |nil=>exact aI.pu _
   |cons u l=>exact aI.an (aI.an (aI.pu _) (aI.b8 _ _)) (I l)
theorem ZF {a b:PM}: ∀ {m:List Wr} {l:List V} {x:Wr} {v:V},(F_ l m).p a b->v≠.aZ->(aE.b8 v x.2).p a b->(F_ (l++[.int .i64 (x.1:Int),v]) (m++[x])).p a b:=by
 intro m;induction m with
 |nil=>intro l x v h I hv;cases l with
  |nil=>exact⟨⟨⟨U,I⟩,hv⟩,aa⟩
  |cons u l=>cases l<;>exact h.elim
 |cons y m ih=>intro l x v h I hv;cases l with
  |nil=>exact h.elim
  |cons u l=>cases l with
   |nil=>exact h.elim
   |cons w l=>exact⟨h.1,ih h.2 I hv⟩
theorem ZG {a b:PM}: ∀ {m:List Wr} {l:List V},(F_ l m).p a b->l.length=m.length*2:=by
 intro m;induction m with
 |nil=>intro l h;cases l with
  |nil=>rfl
  |cons u l=>cases l<;>exact h.elim
 |cons y m I=>intro l h;cases l with
  |nil=>exact h.elim
  |cons u l=>cases l with
   |nil=>exact h.elim
   |cons w l=>have:=I h.2;simp only[aW];omega
def qN (v:V)(m:List (Option (List Nat))): aE:=xs λid:Nat=>xs λcs:List V=>star [.pu (v=.sl id 0 m.length (.exact m.length)),pt id (.cells m.length cs false),each zu cs m]
def DM (v:V)(m:List Wr): aE:=xs λcs:List V=>star [.arr 2 v cs,F_ cs m]
def Ga (v:V): Option Wr->aE
 |none=>.pu (v=.cg)
 |some x=>xs λid:Nat=>xs λu:V=>star [.pu (v=.ptr id 0),pt id (.cells 2 [.int .i64 (x.1:Int),u] false),.b8 u x.2]
def bZ (p:Nat)(δ:Dk): aE:=xs λpg:V=>xs λwt:V=>xs λnw:V=>xs λlg:V=>xs λmk:V=>xs λI:V=>xs λtl:V=>xs λops:Int =>
 star [pt p (.cells 12 (SN δ.room pg wt nw lg δ.gS mk δ.cV ops δ.dead I tl) false),qN pg δ.bI,DM wt δ.waiting,pQ (λv b=>.b8 v b) nw δ.now,bf lg δ.log,og mk δ.mark,Ga I δ.HY,og tl δ.tail]
section
variable {p:Nat}
theorem ep : Sat h (bZ p δ::S)↔∃pg wt nw lg mk I tl ops,Sat h (pt p (.cells 12 (SN δ.room pg wt nw lg δ.gS mk δ.cV ops δ.dead I tl) false)::qN pg δ.bI::DM wt δ.waiting::pQ (λv b=>.b8 v b) nw δ.now::bf lg δ.log::og mk δ.mark::Ga I δ.HY::og tl δ.tail::S):=by
 simp[bZ,jv,cY]
theorem sP {v:V}{m:List (Option (List Nat))}: Sat h (qN v m::S)↔∃id cs,v=.sl id 0 m.length (.exact m.length)/\Sat h (pt id (.cells m.length cs false)::each zu cs m::S):=by
 simp[qN,jv,cY,uA]
theorem B4 {v:V}{m:List Wr}: Sat h (DM v m::S)↔∃cs,Sat h (.arr 2 v cs::F_ cs m::S):=by
 grind[DM,jv,cY]
end
section
variable {told:cu} {v:V}
def Gb (s:Nat)(l:List Nat): Nat:=Nat.xor (crcL (Nat.xor s 4294967295) l) 4294967295
theorem EB {s:Nat}(hs:s<4294967296)(hl:∀b∈l,b<256): Gb s l<4294967296:=qI (HK _ _ (qI hs) hl)
theorem ZH (hT:W told){s:Nat}(sa:Sat h S)(hk:getA S k=some X)(hX:cC X (cK v l))(hs:s<4294967296)(hl:l.length<=4611686018427387904):
  Call ⟨Tryz.prog,told⟩ 211 [.int .u32 (s:Int),v] h λr h'=>r=.int .u32 (Gb s l:Nat)/\h'=h:=by
 have hv:=sa.aC hk hX;refine⟨_,_,iS.told hT.more FE U ?_,U,U⟩;have I:yS (s:Int) l=.int .u32 (Gb s l:Nat):=by rfl
 have KL:=hv;rcases KL.2 with⟨rfl|⟨ea,rfl⟩,rfl⟩|⟨id,off,cap,n,cs,st,rfl,_⟩
 .grind[toldMore]
 .grind[toldMore]
 .simp only[toldMore];rw[show(decide ((0:Int)<=(s:Int))&&decide ((s:Int)<4294967296)&&Nat.ble l.length 4611686018427387904)=true by simp;omega,ag,hv.rdN.2];simp only;have:∀l:List Nat,(∀b∈l,b<256)->bytesIn (ofBytes l)=some l:=by
   intro l;induction l with
   |nil=>intro _;rfl
   |cons b l ih =>
    intro hb;grind[ofBytes,bytesIn,List.mem_cons_self]
  rw[this l hv.1];simp only[I]
end
section
variable {told:cu} {p:Nat}
theorem ql (hT:W told)(s:Sat h (X::S))(I:cC X (cK x l))(hl:l.length<1073741824):
  Call ⟨Tryz.prog,told⟩ 114 [x] h λv h'=>Sat h' (bf v l::X::S):=by
 refine Call.of_wp (hT.free _ U) Tryz.func114 U U (zK 7 U (zo U (aD U U U (bw aP (s.aC (k:=0) U I))) (au.any U U U (OpR.uD U s U U U U hl) ?_)));intro v h s;refine zm U (au.any U U U (OpR.qB U s I U U U U (by simp;omega)) ?_);intro v h s;exact zk 2 U (WP.ret ⟨aa,_,U,s⟩)
theorem Aw (hT:W told)(s:Sat h (X::S))(I:cC X (cK x l))(hl:l.length<1073741824):
  Call ⟨Tryz.prog,told⟩ 145 [x] h λv h'=>Sat h' (bf v l::X::S):=by
 refine Call.of_wp (hT.free _ U) Tryz.func145 U U (zK 7 U (zo U (aD U U U (bw aP (s.aC (k:=0) U I))) (au.any U U U (OpR.uD U s U U U U hl) ?_)));intro v h s;refine zm U (au.any U U U (OpR.qB U s I U U U U (by simp;omega)) ?_);intro v h s;exact zk 2 U (WP.ret ⟨aa,_,U,s⟩)
theorem vA (hT:W told)(s:Sat h (X::S))(I:cC X (cK x l))(hl:l.length<1073741824):
  Call ⟨Tryz.prog,told⟩ 109 [x] h λv h'=>Sat h' (bf v l::X::S):=by
 refine Call.of_wp (hT.free _ U) Tryz.func109 U U (zK 7 U (zo U (aD U U U (bw aP (s.aC (k:=0) U I))) (au.any U U U (OpR.uD U s U U U U hl) ?_)));intro v h s;refine zm U (au.any U U U (OpR.qB U s I U U U U (by simp;omega)) ?_);intro v h s;exact zk 2 U (WP.ret ⟨aa,_,U,s⟩)
theorem ED (I:W told)(s:Sat h (bZ p δ::S)): Call ⟨Tryz.prog,told⟩ 97 [.ptr p 0] h λv h'=>v=.int .i64 (δ.bI.length:Int)/\h'=h:=by
 obtain⟨pg,wt,nw,lg,mk,tn,tl,ops,s⟩:=ep.1 s;obtain⟨id,cs,rfl,s'⟩:=sP.1 (s.ae [1]);exact Call.of_wp (I.free _ U) Tryz.func97 U U (zK 8 U (zY s 0 HO gx U (zo U (aD U U U (tO U aQ)) (zk 2 U (WP.ret ⟨aa,_,U,U,U⟩)))))
theorem SO (hT:W told){n:Int}(s:Sat h (bZ p δ::S)): Call ⟨Tryz.prog,told⟩ 199 [.ptr p 0,.int .i64 n] h λv h'=>h'=h/\((0<=n/\n<δ.bI.length/\v=.bool true)\/(¬(0<=n/\n<δ.bI.length)/\v=.bool false)):=by
 obtain⟨pg,wt,nw,lg,mk,tn,tl,ops,s⟩:=ep.1 s;obtain⟨id,cs,rfl,s'⟩:=sP.1 (s.ae [1]);refine Call.of_wp (hT.free _ U) Tryz.func199 U U (zK 7 U ?_);refine zd U (aq U U j6) ?_ ?_
 .intro hq;have hq:0<=n:=by simpa using hq
  refine zk 4 U (zY s 0 HO gx U (zo U (aD U U U (tO U aQ)) ?_));refine zd U (aq U U aK) ?_ ?_
  .intro I;have I:n<δ.bI.length:=by simpa using I
   exact zk 3 U (WP.ret ⟨aa,_,U,U,.inl ⟨hq,I,U⟩⟩)
  .intro I;have I:¬ n<δ.bI.length:=by simpa using I
   exact zk 3 U (WP.ret ⟨aa,_,U,U,.inr ⟨λh=>I h.2,U⟩⟩)
 .intro hq;have hq:¬ 0<=n:=by simpa using hq
  exact zk 11 U (WP.ret ⟨aa,_,U,U,.inr ⟨λh=>hq h.1,U⟩⟩)
def Dk.K0 (δ:Dk): Nat:=δ.gS
def Dk.gu (δ:Dk): Dk:={ δ with cV:=if 0<δ.cV then δ.cV-1 else δ.cV }
def Dk.die (δ:Dk): Dk:={ δ with dead:=true }
theorem B5 (hT:W told)(s:Sat h (bZ p δ::S))(hf:δ.cV<4294967296):
  Call ⟨Tryz.prog,told⟩ 193 [.ptr p 0] h λv h'=>(δ.cV=0/\v=.bool false/\Sat h' (bZ p δ.die::S))\/(δ.cV≠0/\v=.bool true/\Sat h' (bZ p δ.gu::S)):=by
 obtain⟨pg,wt,nw,lg,mk,tn,tl,ops,s⟩:=ep.1 s;refine Call.of_wp (hT.free _ U) Tryz.func193 U U (zK 9 U (zY s 0 DC bP U ?_));refine zd U (aq U U dK) ?_ ?_
 .intro hq;refine zk 6 U (zf U (rZ _ _) ?_);refine zS U (by exact s.kC (k:=0) U BU U (by decide) U U) (λh s => ?_);refine zk 5 U (WP.ret ⟨aa,_,U,?_⟩);have hq:δ.cV=0:=by simpa using hq
  exact .inl ⟨hq,U,ep.2 ⟨pg,wt,nw,lg,mk,tn,tl,ops,s⟩⟩
 .intro hq;have hq:δ.cV≠0:=by simpa using hq
  refine zk 8 U (zY s 0 DC bP U ?_);refine zd U (aq U U cA) ?_ ?_
  .intro I;have I:0<δ.cV:=by simpa using I
   refine zk 5 U (zY s 0 DC bP U (zb U (by exact dV ak) ?_));refine zn U (zf U (DC _ _) ?_);refine zS U (by exact s.kC (k:=0) U lQ U (by decide) U U) (λh s => ?_);refine zk 5 U (zY s 0 DD bP U (zb U (by rfl) ?_));refine zn U (zf U (DD _ _) ?_);refine zS U (by exact s.kC (k:=0) U lQ U (by decide) U U) (λh s => ?_);exact zk 5 U (WP.ret ⟨aa,_,U,.inr ⟨hq,U,ep.2 ⟨pg,wt,nw,lg,mk,tn,tl,_,by simp only[Dk.gu,ay I];exact s⟩⟩⟩)
  .intro I;have I:¬ 0<δ.cV:=by simpa using I
   refine zk 7 U (zY s 0 DD bP U (zb U (by rfl) ?_));refine zn U (zf U (DD _ _) ?_);refine zS U (by exact s.kC (k:=0) U lQ U (by decide) U U) (λh s => ?_);exact zk 5 U (WP.ret ⟨aa,_,U,.inr ⟨hq,U,ep.2 ⟨pg,wt,nw,lg,mk,tn,tl,_,by simp only[Dk.gu,ai I];exact s⟩⟩⟩)
def Dk.at (δ:Dk)(n:Int): List Nat:=match lookL n δ.now with
 |some b=>b
 |none=>match δ.bI[n.toNat]? with
  |some (some b)=>b
  |_=>List.replicate 512 0
theorem Qm {v:V}{m:List (Option (List Nat))}(s:Sat h (qN v m::S))(hi:i<m.length):
  ∃id u,v=.sl id 0 m.length (.exact m.length)/\(∀(P:Program) (t:TypeId),isAggT P t=some false->loadV P h t (.ptr id i)=some u)/\Sat h (zu u m[i]::qN v m::S):=by
 obtain⟨id,cs,rfl,s1⟩:=sP.1 s;obtain⟨a,b,q1,q2,I⟩:=s1.at (k:=1) U;have hl:=EA I;have hu:cs[i]?=some (cs[i]'(by omega)):=aF _;have s2:Sat h (each zu cs m::pt id (.cells m.length cs false)::S):=s1.ae [1];have s3:=s2.dup (aI.each aI.zu cs m);have s4:Sat h (zu (cs[i]'(by omega)) m[i]::each zu cs m::pt id (.cells m.length cs false)::S):=s3.dM λa b h=>KZ h hu (aF hi);refine⟨id,cs[i]'(by omega),U,λP t ht=>BM ht (s1.row (k:=0) U) (by rw[gE,hu]),?_⟩;have s5:Sat h (pt id (.cells m.length cs false)::each zu cs m::zu (cs[i]'(by omega)) m[i]::S):=s4.ae [2,1];exact(sP.2 ⟨id,cs,U,s5⟩:Sat h (qN _ m::zu (cs[i]'(by omega)) m[i]::S)).ae [1]
theorem VR (hT:W told){n:Int}(s:Sat h (bZ p δ::S))(hl:(δ.at n).length=512): Call ⟨Tryz.prog,told⟩ 148 [.ptr p 0,.int .i64 n] h λv h' =>
  (δ.dead=true/\v=.aX [.aZ,.int .i64 9]/\Sat h' (bZ p δ::S)) \/
  (δ.dead=false/\¬(0<=n/\n<δ.bI.length)/\v=.aX [.aZ,.int .i64 1]/\Sat h' (bZ p δ::S)) \/
  (δ.dead=false/\0<=n/\n<δ.bI.length/\∃b,v=.aX [b,.int .i64 0]/\Sat h' (bf b (δ.at n)::bZ p δ::S)):=by
 have s0:=s;obtain⟨pg,wt,nw,lg,mk,tn,tl,ops,s⟩:=ep.1 s;refine Call.of_wp (hT.free _ U) Tryz.func148 U U (zK 6 U (WP.block (zK 4 U (zY s 0 rZ sH U (zk 2 U ?_)))));refine WP.split U ?_ ?_
 .intro hd;exact zK 5 U (WP.ret ⟨aa,_,U,.inl ⟨hd,U,s0⟩⟩)
 .intro hd;refine zK 4 U (zc U (SO hT s0) ?_);rintro v h' ⟨rfl,(⟨wJ,qu,rfl⟩|⟨hn,rfl⟩)⟩
  .skip;refine zo U (eo U U) (za U (zv (zj U (WP.skip (zg U (zk 2 U (zf U (Oa _ _) (zl U (by exact s.ld (k:=0) U qV U) ?_))))))));refine zm U ?_;have s1:Sat h' (pQ (λv b=>.b8 v b) nw δ.now::pt p (.cells 12 (SN δ.room pg wt nw lg δ.gS mk δ.cV ops δ.dead tn tl) false)::qN pg δ.bI::DM wt δ.waiting::bf lg δ.log::og mk δ.mark::Ga tn δ.HY::og tl δ.tail::S):=s.ae [3];rcases oh (n:=n) (λ_ _=>aI.b8 _ _) s1 uE b_ lK with⟨g1,g2,_⟩|⟨u,b,g1,g2,_,s2⟩
   .refine au.op U U U (kM U U g2) ?_;refine zk 10 U (zo U (eo U U) (zk 5 U (zY s 0 HO gx U (zm U ?_))));have hi:n.toNat<δ.bI.length:=by omega
    obtain⟨id,u,rfl,g3,s3⟩:=Qm (s.ae [1]) hi;refine zo U (bM (r:=.ptr id n.toNat) U U (by rw[aet,show(decide (0<=n)&&decide (n<((δ.bI.length:Nat):Int)))=true by simp;omega,ag];simp)) ?_;refine zl U (g3 _ _ bS) (zk 6 U ?_);have I:δ.at n=match δ.bI[n.toNat] with|some b=>b|none=>List.replicate 512 0:=by
     simp only[Dk.at,g1,aF hi];cases δ.bI[n.toNat]<;>rfl
    cases hp:δ.bI[n.toNat] with
    |none =>
     rw[hp] at s3 I;have I:δ.at n=List.replicate 512 0:=I;obtain⟨rfl,_⟩:=uA.1 s3;refine zt U ((by exact aq U U (by simp only[binV,eqV,aP];rfl))) (U) ?_;refine zk 4 U (au.any U U U (OpR.J0 U s0 U U U U (by decide)) ?_);intro v h s;exact zk 3 U (WP.ret ⟨aa,_,U,.inr (.inr ⟨hd,wJ,qu,v,U,by rw[I];exact s⟩)⟩)
    |some b =>
     rw[hp] at s3 I;have I:δ.at n=b:=I;have s4:Sat h' (aE.an (.pu (u≠.aZ)) (.b8 u b)::qN _ δ.bI::_):=s3;have hu:u≠.aZ:=by
      obtain⟨a,b,q1,q2,q3⟩:=s4.at (k:=0) U;exact q3.1
     have s5:Sat h' (.b8 u b::bZ p δ::S):=by
      have s6:=s4.dM (B:=.b8 u b) λa b h=>h.2;exact(ep.2 ⟨_,wt,nw,lg,mk,tn,tl,ops,s6.ae [2,1,1,1,1,1,1,1]⟩:Sat h' (bZ p δ::.b8 u b::S)).ae [1]
     have SP:∃a b c d,u=.sl a b c d:=by
      rcases (s5.aC (k:=0) U (bp _ _)).2 with⟨_,e⟩|⟨a,b,c,_,_,_,e,_⟩
      .rw[I,e] at hl;simp at hl
      .exact⟨_,_,_,_,e⟩
     obtain⟨a,b',c,d,rfl⟩:=SP;refine zh U ((by exact aq U U (by simp only[binV,eqV,aP];rfl))) (U) ?_;refine zk 6 U (zc U (ql hT s5 (bp _ _) (by rw[<-I,hl];decide)) ?_);intro v h s;exact zk 3 U (WP.ret ⟨aa,_,U,.inr (.inr ⟨hd,wJ,qu,v,U,by rw[I];exact s.del 1⟩)⟩)
   .skip;refine zo U (kM U U g2) (zk 10 U (zo U (eo U U) (zk 7 U ?_)));have I:δ.at n=b:=by simp only[Dk.at,g1]
    have SP:∃a b c d,u=.sl a b c d:=by
     rcases (s2.aC (k:=0) U (bp _ _)).2 with⟨_,e⟩|⟨a,b,c,_,_,_,e,_⟩
     .rw[I,e] at hl;simp at hl
     .exact⟨_,_,_,_,e⟩
    obtain⟨a,b',c,d,rfl⟩:=SP;refine zh U ((by exact aq U U (by simp only[binV,eqV,aP];rfl))) (U) ?_;refine zk 6 U (zc U (ql hT s2 (bp _ _) (by rw[<-I,hl];decide)) ?_);intro v h s;refine zk 3 U (WP.ret ⟨aa,_,U,?_⟩);have s:=ep.2 ⟨pg,wt,nw,lg,mk,tn,tl,ops,s.ae [3,3,3,2,2,2,2,2]⟩;exact .inr (.inr ⟨hd,wJ,qu,v,U,by rw[I];exact(s.del 2).ae [1,0]⟩)
  .skip;exact zo U (eo U U) (zk 8 U (WP.ret ⟨aa,_,U,.inr (.inl ⟨hd,hn,U,s0⟩)⟩))
theorem Nb (I:W told)(s:Sat h (bZ p δ::S)): Call ⟨Tryz.prog,told⟩ 180 [.ptr p 0] h λv h'=>v=.int .i64 (δ.K0:Int)/\h'=h:=by
 obtain⟨pg,wt,nw,lg,mk,tn,tl,ops,s⟩:=ep.1 s;exact Call.of_wp (I.free _ U) Tryz.func180 U U (zK 8 U (zY s 0 Ob bP U (zk 2 U (WP.ret ⟨aa,_,U,U,U⟩))))
theorem K1 (I:W told)(s:Sat h (bZ p δ::S)): Call ⟨Tryz.prog,told⟩ 36 [.ptr p 0] h λv h'=>v=.bool δ.dead/\h'=h:=by
 obtain⟨pg,wt,nw,lg,mk,tn,tl,ops,s⟩:=ep.1 s;exact Call.of_wp (I.free _ U) Tryz.func36 U U (zK 8 U (zY s 0 rZ sH U (zk 2 U (WP.ret ⟨aa,_,U,U,U⟩))))
theorem SQ (hT:W told)(s:Sat h (bZ p δ::S))(hf:δ.cV<4294967296): Call ⟨Tryz.prog,told⟩ 175 [.ptr p 0] h λv h' =>
  (δ.dead=true/\v=.int .i64 9/\Sat h' (bZ p δ::S))\/(δ.dead=false/\δ.cV=0/\v=.int .i64 9/\Sat h' (bZ p δ.die::S)) \/
  (δ.dead=false/\δ.cV≠0/\v=.int .i64 0/\Sat h' (bZ p { δ.gu with gS:=δ.log.length }::S)):=by
 have s0:=s;obtain⟨pg,wt,nw,lg,mk,tn,tl,ops,s⟩:=ep.1 s;refine Call.of_wp (hT.free _ U) Tryz.func175 U U (zK 9 U (zf U (rZ _ _) ?_));refine zd U (o_load U (s.ld (k:=0) U sH U)) ?_ ?_
 .intro I;exact zk 11 U (WP.ret ⟨aa,_,U,.inl ⟨I,U,s0⟩⟩)
 .intro I;refine zk 2 U (zc U (B5 hT s0 hf) ?_);rintro v h (⟨h0,rfl,s⟩|⟨h0,rfl,s⟩)
  .skip;exact zo U (eo U U) (zk 7 U (WP.ret ⟨aa,_,U,.inr (.inl ⟨I,h0,U,s⟩)⟩))
  .skip;obtain⟨pg,wt,nw,lg,mk,tn,tl,ops,s⟩:=ep.1 s;dsimp only[Dk.gu] at s;refine zo U (eo U U) (zk 9 U (zY s 0 yZ bS U (zo U (aD U U U (bw aP (s.aC (k:=4) U (bh _ _)))) (zn U (zf U (Ob _ _) ?_)))));refine zS U (by exact s.kC (k:=0) U lQ U (by decide) U U) (λh s => ?_);exact zk 5 U (WP.ret ⟨aa,_,U,.inr (.inr ⟨I,h0,U,ep.2 ⟨pg,wt,nw,lg,mk,tn,tl,ops,s⟩⟩)⟩)
theorem Qn (hT:W told)(s:Sat h (bZ p δ::X::S))(hX:cC X (cK x b))(hb:b.length<1073741824)(hf:δ.cV<4294967296)(hl:δ.log.length<=4294967296)(hr:δ.room<=4294967296):
  Call ⟨Tryz.prog,told⟩ 141 [.ptr p 0,x] h λv h' =>
  (δ.dead=true/\v=.int .i64 9/\Sat h' (bZ p δ::X::S))\/(δ.dead=false/\δ.room<δ.log.length+b.length/\v=.int .i64 7/\Sat h' (bZ p δ::X::S)) \/
  (δ.dead=false/\δ.log.length+b.length<=δ.room/\δ.cV=0/\v=.int .i64 9/\Sat h' (bZ p { δ.die with tail:=b }::X::S)) \/
  (δ.dead=false/\δ.log.length+b.length<=δ.room/\δ.cV≠0/\v=.int .i64 0/\Sat h' (bZ p { δ.gu with log:=δ.log++b }::X::S)):=by
 have s0:=s
 obtain⟨pg,wt,nw,lg,mk,tn,tl,ops,s⟩:=ep.1 s
 refine Call.of_wp (hT.free _ U) Tryz.func141 U U (zK 5 U (WP.block (zK 4 U (zf U (rZ _ _) ?_))))
 refine zd U (o_load U (s.ld (k:=0) U sH U)) ?_ ?_
 .intro hd
  exact zk 7 U (WP.ret ⟨aa,_,U,.inl ⟨hd,U,s0⟩⟩)
 .intro hd
  refine zk 4 U (WP.drawn [af,af,af,af,af,af,af,af,af,af,af,af,af,af] U (by kernel_rfl) (by kernel_rfl) ?_)
  refine zM U (zO U (aD U U U (bw aP (s.aC (k:=8) U hX))) (zM U (zN U (zF U (Zw _ _) (zL U (s.ld (k:=0) U bP U) (zM U (zN U (zF U (yZ _ _) (zL U (s.ld (k:=0) U bS U) (zO U (aD U U U (bw aP (s.aC (k:=4) U (bh _ _)))) (zO U (aq U U (by exact dV ak)) ?_)))))))))))
  refine aB.opB U U U U (aq U U cA) ?_ ?_
  .intro I
   have I:δ.room<δ.log.length+b.length:=by simp at I;omega
   refine zA U ?_
   refine aB.nil ⟨⟨aa,aa,aa,aa,aa,aa,aa,aa,aa,aa,aa,aa,aa,aa,aa⟩,?_⟩
   exact zK 5 U (WP.ret ⟨aa,_,U,.inr (.inl ⟨hd,I,U,s0⟩)⟩)
  .intro I
   have I:δ.log.length+b.length<=δ.room:=by simp at I;omega
   refine zA U ?_
   refine aB.nil ⟨⟨aa,aa,aa,aa,aa,aa,aa,aa,aa,aa,aa,aa,aa,aa,aa⟩,?_⟩
   refine zK 4 U (zc U (B5 hT s0 hf) ?_)
   rintro v h (⟨h0,rfl,s⟩|⟨h0,rfl,s⟩)
   .skip
    refine zo U (eo U U) (zk 7 U (zc U (ql hT (s.ae [1]) hX hb) ?_))
    intro v h s
    have s:=(s.ff).ae [2,0,0]
    obtain⟨pg,wt,nw,lg,mk,tn,tl,ops,s⟩:=ep.1 s
    have hv:=(s.aC (k:=8) U (bp _ _)).cells
    refine zn U (zf U (VE _ _) (zS U (s.kC (k:=0) U dP U (by decide) hv.1 hv.2) ?_))
    intro h s
    exact zk 5 U (WP.ret ⟨aa,_,U,.inr (.inr (.inl ⟨hd,I,h0,U,ep.2 ⟨pg,wt,nw,lg,mk,tn,v,ops,s.del 7⟩⟩))⟩)
   .skip
    obtain⟨pg,wt,nw,lg,mk,tn,tl,ops,s⟩:=ep.1 s
    dsimp only[Dk.gu] at s
    refine zo U (eo U U) (za U (zv (zj U (WP.skip (zg U (zk 3 U (zf U (yZ _ _) (zl U (by exact s.ld (k:=0) U bS U) ?_))))))))
    refine zm U (au.any U U U (OpR.qB U (s.ae [4,7]) hX U U U U (by show δ.log.length+_<=_;omega)) ?_)
    intro v h s
    have hv:=(s.buf (k:=0) U).view.cells
    refine zn U (zf U (yZ _ _) (zS U (s.kC (k:=2) U dP U (by decide) hv.1 hv.2) ?_))
    intro h s
    exact zk 5 U (WP.ret ⟨aa,_,U,.inr (.inr (.inr ⟨hd,I,h0,U,ep.2 ⟨pg,wt,nw,v,mk,tn,tl,ops,s.ae [2,2,2,2,0,1,1,1]⟩⟩))⟩)
end
section
variable {told:cu} {p:Nat}
def Dk.wr (δ:Dk)(n:Int)(b:List Nat): Dk:={ δ.gu with waiting:=δ.waiting++[(n.toNat,b)],now:=cD n b δ.now }
theorem ZI : ∃i,Tryz.prog.info? 185=some i/\i.size=2/\i.bytes=32 :=
 ⟨_,(show Tryz.prog.info? 185=some ((Tryz.prog.info? 185).getD default) by kernel_rfl),by kernel_rfl,by kernel_rfl⟩
theorem Sat.abS {m:List Wr}{x:Wr}(s:Sat h (.b8 u x.2::F_ cs m::S))(hu:u≠.aZ): Sat h (F_ (cs++[.int .i64 (x.1:Int),u]) (m++[x])::S) :=
 s.two (aI.b8 _ _) (aI.wr _ _) λ_ _ I h2=>ZF h2 hu I
theorem SR (hT:W told){n:Int}(s:Sat h (bZ p δ::X::S))(hX:cC X (cK x b))(hb:b.length<1073741824)(hf:δ.cV<4294967296)(hw:δ.waiting.length<=268435456):
  Call ⟨Tryz.prog,told⟩ 183 [.ptr p 0,.int .i64 n,x] h λv h' =>
  (δ.dead=true/\v=.int .i64 9/\Sat h' (bZ p δ::X::S)) \/
  (δ.dead=false/\¬(0<=n/\n<δ.bI.length/\b.length=512)/\v=.int .i64 1/\Sat h' (bZ p δ::X::S)) \/
  (δ.dead=false/\0<=n/\n<δ.bI.length/\b.length=512/\δ.cV=0/\v=.int .i64 9/\Sat h' (bZ p { δ.die with HY:=some (n.toNat,b) }::X::S)) \/
  (δ.dead=false/\0<=n/\n<δ.bI.length/\b.length=512/\δ.cV≠0/\v=.int .i64 0/\Sat h' (bZ p (δ.wr n b)::X::S)):=by
 have s0:=s
 obtain⟨pg,wt,nw,lg,mk,tn,tl,ops,s⟩:=ep.1 s
 refine Call.of_wp (hT.free _ U) Tryz.func183 U U (zK 5 U (WP.block (zK 4 U (zf U (rZ _ _) ?_))))
 refine zd U (o_load U (s.ld (k:=0) U sH U)) ?_ ?_
 .intro hd
  exact zk 7 U (WP.ret ⟨aa,_,U,.inl ⟨hd,U,s0⟩⟩)
 .intro hd
  refine zk 7 U (zc U (SO hT s0) ?_)
  rintro v h' ⟨rfl,(⟨wJ,qu,rfl⟩|⟨hn,rfl⟩)⟩
  .skip
   refine zo U (eo U U) (zk 2 U (zo U (aD U U U (bw aP (s.aC (k:=8) U hX))) ?_))
   refine zd U (aq U U aG) ?_ ?_
   .intro I
    have I:b.length≠512:=by simp at I;omega
    exact zk 8 U (WP.ret ⟨aa,_,U,.inr (.inl ⟨hd,λq=>I q.2.2,U,s0⟩)⟩)
   .intro I
    have I:b.length=512:=by simp at I;omega
    refine zk 2 U (zv (zj U (WP.skip (zg U (zk 2 U (zc U (ql hT (s0.ae [1]) hX hb) ?_))))))
    intro u h s
    obtain⟨lS,_,cap,_,rfl,_⟩:=s.eX (by omega)
    have s:=s.ff
    have hnc:((n.toNat:Nat):Int)=n:=by omega
    refine zo U (cO U (by rw[adf];rfl)) ?_
    refine au.cj s U U U (cm Qe) (λp7 h s => ?_)
    refine zS U (s.gZ (j:=0) U Qd U U) (λh s => ?_)
    refine zk 5 U (zc U (B5 hT (s.ae [3]) hf) ?_)
    rintro v h (⟨h0,rfl,s⟩|⟨h0,rfl,s⟩)
    .skip
     obtain⟨pg,wt,nw,lg,mk,tn,tl,ops,s⟩:=ep.1 s
     refine zo U (eo U U) (zk 6 U (zf U (VD _ _) ?_))
     refine zS U (by exact s.kC (k:=0) U ac_ U (by decide) U U) (λh s => ?_)
     dsimp only[SN,V.cells,List.length_cons,List.length_nil,Nat.reduceAdd,aM,bringA,List.take,List.drop,List.cons_append,List.nil_append,setA,List.set] at s
     refine zk 5 U (WP.ret ⟨aa,_,U,?_⟩)
     have s1:=s.ae [8,8,8]
     have s2:Sat h (Ga _ (some (n.toNat,b))::_):=jv.2 ⟨_,jv.2 ⟨_,cY.2 (uA.2 ⟨U,by rw[hnc];exact s1⟩)⟩⟩
     have s3:=(s2.del 8).ae [2,2,2,2,2,2,0,1,0]
     exact .inr (.inr (.inl ⟨hd,wJ,qu,I,h0,U,ep.2 ⟨_,_,_,_,_,_,_,_,s3⟩⟩))
    .skip
     obtain⟨pg,wt,nw,lg,mk,tn,tl,ops,s⟩:=ep.1 s
     dsimp only[Dk.gu] at s
     obtain⟨cs,sw⟩:=B4.1 (s.ae [2])
     have s:=sw.ae [2,8,0,0]
     dsimp only[SN,V.cells,List.length_cons,List.length_nil,Nat.reduceAdd,aM,bringA,List.take,List.drop,List.cons_append,List.nil_append,setA,getA] at s
     have s0:=s
     have Gc:=(s.uT (j:=2) U).2.2
     refine zo U (eo U U) (zk 4 U (WP.drawn [some (0,3),some (0,2),some (0,2),some (0,2),some (0,2),af,af,af,af,af,af] U (by kernel_rfl) (by kernel_rfl) ?_))
     refine zM U (zM U (zN U (zF U (HP _ _) (zL U (s.ld (k:=0) U Qc U) (zL U (s.b9 (k:=1) U ade Qd) ?_)))))
     obtain⟨i1,c9,fH,pR⟩:=ZI
     obtain⟨sv,h1,e1,s1⟩:=kV (P:=Tryz.prog) (x:=.agg [.int .i64 n,.sl lS 0 b.length cap]) s Tryz.underlying169 Qe Qd U (by decide) (by decide) U U
     dsimp only[V.cells] at s1
     refine aB.any U U U U (OpR.of (R:=λv h'=>v=sv/\h'=h1) (je U e1) ⟨U,U⟩) ?_
     rintro v h' ⟨rfl,rfl⟩
     have fN:cs.length=δ.waiting.length*2:=by
      obtain⟨a,b,q1,q2,q3⟩:=s.at (k:=3) U
      exact ZG q3
     obtain⟨wt',h2,e2,s2⟩:=iw (s1.ae [3,0]) Tryz.underlying169 c9 Qe fH (by omega) U (by decide) (by simp only[V.cells,aW,b6];omega)
     dsimp only[aM,bringA] at s2
     refine aB.any U U U U (OpR.of (R:=λv h'=>v=wt'/\h'=h2) (iY U U e2) ⟨U,U⟩) ?_
     rintro v h' ⟨rfl,rfl⟩
     have hv:=s2.uT (j:=0) U
     refine zN U (zF U (HP _ _) (aB.lJ U U U (OpR.yW U U U (s2.kC (k:=2) U ac9 U (by decide) hv.1 hv.2.1)) ?_))
     rintro v h ⟨rfl,s⟩
     dsimp only[Nat.reduceAdd,List.set,setA] at s
     refine aB.nil ⟨⟨λ_ _=>.inr ⟨U,⟨_,b7 U⟩,bx _ U⟩,λ_ _=>.inr ⟨U,⟨_,b7 U⟩,bx _ U⟩,λ_ _=>.inr ⟨U,⟨_,vr U⟩,bx _ U⟩,λ_ _=>.inr ⟨U,⟨_,m9 U (HP _ _)⟩,bx _ U⟩,gF (.inr ⟨U,⟨_,o_load U (s0.ld (k:=0) U Qc U)⟩,Gc⟩) (.inr ⟨U,⟨_,o_load U (s1.ld (k:=1) U Qc U)⟩,Gc⟩),aa,aa,aa,aa,aa,aa,aa⟩,?_⟩
     refine zw (WP.drawn [af,af,af,af,af,af,af,af] U (by kernel_rfl) (by kernel_rfl) ?_)
     refine zM U (zN U (zF U (Oa _ _) (zL U (s.ld (k:=2) U qV U) (zM U (zF U (Zz _ _) (zL U (s.ld (k:=3) U bS U) (aB.lJ U U U (OpR.mapUpdate U U U U (oB (f:=λv b=>aE.b8 v b) (x:=b) (λ_ _=>aI.b8 _ _) (((s.ae [11]).dup (aI.b8 _ _)).ae [0,7]) uE b_)) ?_)))))))
     intro v h s
     dsimp only[aM,bringA] at s
     refine aB.nil ⟨⟨aa,aa,aa,aa,aa,aa,aa,aa,aa⟩,?_⟩
     refine zK 4 U (WP.ret ⟨aa,_,U,?_⟩)
     have s1:=(s.ae [1,5]).abS (x:=(n.toNat,b)) (by simp)
     rw[hnc] at s1
     have s2:=((B4.2 ⟨_,s1.ae [2,0]⟩).del 4).del 2
     exact .inr (.inr (.inr ⟨hd,wJ,qu,I,h0,U,ep.2 ⟨_,_,_,_,_,_,_,_,s2.ae [2,2,0,0,0,0,0,0,0]⟩⟩))
  .skip
   exact zo U (eo U U) (zk 12 U (WP.ret ⟨aa,_,U,.inr (.inl ⟨hd,λq=>hn ⟨q.1,q.2.1⟩,U,s0⟩)⟩))
theorem ZJ (hT:W told)(s:Sat h (bZ p δ::S))(hl:δ.log.length<1073741824): Call ⟨Tryz.prog,told⟩ 177 [.ptr p 0] h λv h' =>
  (δ.dead=true/\v=.aX [.aZ,.int .i64 9]/\Sat h' (bZ p δ::S))\/(δ.dead=false/\∃b,v=.aX [b,.int .i64 0]/\Sat h' (bf b δ.log::bZ p δ::S)):=by
 have s0:=s;obtain⟨pg,wt,nw,lg,mk,tn,tl,ops,s⟩:=ep.1 s;refine Call.of_wp (hT.free _ U) Tryz.func177 U U (zK 10 U (zf U (rZ _ _) ?_));refine zd U (o_load U (s.ld (k:=0) U sH U)) ?_ ?_
 .intro I;exact zk 7 U (WP.ret ⟨aa,_,U,.inl ⟨I,U,s0⟩⟩)
 .intro I;refine zk 7 U (zY s 0 yZ bS U (zc U (ql hT (s.ae [4]) (bh _ _) hl) ?_));intro v h s;exact zk 3 U (WP.ret ⟨aa,_,U,.inr ⟨I,v,U,(ep.2 ⟨pg,wt,nw,lg,mk,tn,tl,ops,s.ae [2,2,2,2,1,1,1,1,0]⟩).ae [1]⟩⟩)
theorem Qo (hT:W told)(s:Sat h (bZ p δ::S))(hl:δ.mark.length<=64): Call ⟨Tryz.prog,told⟩ 176 [.ptr p 0] h λv h' =>
  (δ.dead=true/\v=.aX [.aZ,.int .i64 9]/\Sat h' (bZ p δ::S))\/(δ.dead=false/\∃b,v=.aX [b,.int .i64 0]/\Sat h' (bf b δ.mark::bZ p δ::S)):=by
 have s0:=s;obtain⟨pg,wt,nw,lg,mk,tn,tl,ops,s⟩:=ep.1 s;refine Call.of_wp (hT.free _ U) Tryz.func176 U U (zK 10 U (zf U (rZ _ _) ?_));refine zd U (o_load U (s.ld (k:=0) U sH U)) ?_ ?_
 .intro I;exact zk 7 U (WP.ret ⟨aa,_,U,.inl ⟨I,U,s0⟩⟩)
 .intro I;refine zk 7 U (zY s 0 Zx bS U (zc U (ql hT (s.ae [5]) (bp _ _) (by omega)) ?_));intro v h s;exact zk 3 U (WP.ret ⟨aa,_,U,.inr ⟨I,v,U,(ep.2 ⟨pg,wt,nw,lg,mk,tn,tl,ops,s.ae [2,2,2,2,2,1,1,1,0]⟩).ae [1]⟩⟩)
def Dk.fresh (bI room:Nat): Dk:={ room:=room,bI:=List.replicate bI none,waiting:=[],now:=[],log:=[],gS:=0,mark:=[],cV := -1,dead:=false,HY:=none,tail:=[] }
theorem ZK : ∃i,Tryz.prog.info? 29=some i/\i.size=1/\i.bytes=24 :=
 ⟨_,(show Tryz.prog.info? 29=some ((Tryz.prog.info? 29).getD default) by kernel_rfl),by kernel_rfl,by kernel_rfl⟩
theorem Nc (v:V): ∀n:Nat,repeatL [v] n=List.replicate n v:=by
 intro n;induction n with
 |zero=>rfl
 |succ n I=>simp only[repeatL,I,Hh,fJ,dL]
theorem SS {a b:PM}: ∀n:Nat,(each zu (List.replicate n .aZ) (List.replicate n none)).p a b:=by
 intro n;induction n with
 |zero=>trivial
 |succ n I=>exact⟨U,I⟩
theorem VS (hT:W told){m:Nat}(s:Sat h S)(hn:n<1073741824): Call ⟨Tryz.prog,told⟩ 112 [.int .i64 (n:Int),.int .i64 (m:Int)] h λv h'=>∃p,v=.ptr p 0/\Sat h' (bZ p (Dk.fresh n m)::S):=by
 refine Call.of_wp (hT.free _ U) Tryz.func112 U U (zK 8 U ?_);obtain⟨i1,I,fH,pR⟩:=ZK;obtain⟨id,h1,e1,s1⟩:=I1 (P:=Tryz.prog) s aQ I lK fH (by omega) U (by decide) hn;refine au.any U U U (OpR.of (R:=λv h'=>v=.sl id 0 n (.exact n)/\h'=h1) (Al U U e1) ⟨U,U⟩) ?_;rintro v h ⟨rfl,rfl⟩;have s:=s1;dsimp only[V.cells] at s;rw[cH,Nc] at s;refine au.BS s U U U U (λp8 h s => ?_);refine zo U (cO U (by rw[ada];rfl)) ?_;refine au.cj s U U U (fC U U) (λp10 h s => ?_);refine zk 2 U (WP.ret ⟨aa,_,U,?_⟩);have s:=(ri (f:=λv b=>aE.b8 v b) (s.ae [1]));have s:=s.ug.ug.F3;have s:Sat _ (DM .aZ []::_):=B4.2 ⟨[],(s.gJ (φ:=True) aa).mq⟩;have s:Sat _ (Ga .cg none::_):=s.gJ U;have s:=s.ae [6,6];have hp:Sat _ (qN (.sl id 0 n (.exact n)) (List.replicate n none)::_):=sP.2 ⟨id,List.replicate n .aZ,by rw[gA],by
  rw[gA];exact(((s.ae [1]).gJ (φ:=True) aa).dM λa b _=>SS n).ae [1]⟩
 dsimp only[V.cells,List.take,List.length_cons,List.length_nil,Nat.reduceAdd,List.drop,List.cons_append,List.nil_append,aM,bringA,getA] at hp;exact⟨_,U,ep.2 ⟨_,_,_,_,_,_,_,_,hp.ae [1,0,1,4,1,1,0,0]⟩⟩
theorem ZL (hT:W told){n m:Int}(s:Sat h S): Call ⟨Tryz.prog,told⟩ 94 [.int .i64 n,.int .i64 m] h λv h' =>
  (¬(1<=n/\n<=65536/\0<=m/\m<=16777216)/\v=.aX [.cg,.int .i64 1]/\Sat h' S) \/
  (1<=n/\n<=65536/\0<=m/\m<=16777216/\∃p,v=.aX [.ptr p 0,.int .i64 0]/\Sat h' (bZ p (Dk.fresh n.toNat m.toNat)::S)):=by
 refine Call.of_wp (hT.free _ U) Tryz.func94 U U (zK 9 U ?_);refine zd U (aq U U aK) ?_ ?_
 .intro hq;have hq:n<1:=by simpa using hq
  exact zk 19 U (WP.ret ⟨aa,_,U,.inl ⟨λq=>by omega,U,s⟩⟩)
 .intro hq;have hq:1<=n:=by simpa using hq
  refine zk 2 U ?_;refine zd U (aq U U cA) ?_ ?_
  .intro I;have I:65536<n:=by simpa using I
   exact zk 16 U (WP.ret ⟨aa,_,U,.inl ⟨λq=>by omega,U,s⟩⟩)
  .intro I;have I:n<=65536:=by simpa using I
   refine zk 3 U ?_;refine zd U (aq U U aK) ?_ ?_
   .intro qO;have qO:m<0:=by simpa using qO
    exact zk 12 U (WP.ret ⟨aa,_,U,.inl ⟨λq=>by omega,U,s⟩⟩)
   .intro qO;have qO:0<=m:=by simpa using qO
    refine zk 3 U ?_;refine zd U (aq U U cA) ?_ ?_
    .intro qP;have qP:16777216<m:=by simpa using qP
     exact zk 8 U (WP.ret ⟨aa,_,U,.inl ⟨λq=>by omega,U,s⟩⟩)
    .intro qP;have qP:m<=16777216:=by simpa using qP
     refine zk 8 U ?_;obtain⟨n,rfl⟩:∃k:Nat,n=k:=⟨n.toNat,by omega⟩;obtain⟨m,rfl⟩:∃k:Nat,m=k:=⟨m.toNat,by omega⟩;refine zc U (VS hT s (by omega)) ?_;rintro v h ⟨p,rfl,s⟩;exact zk 3 U (WP.ret ⟨aa,_,U,.inr ⟨hq,I,qO,qP,p,U,s⟩⟩)
end
def leN : List Nat->Nat
 |[]=>0
 |b::l=>b+256*leN l
theorem VT : ∀(l:List Nat) (b:Nat),leN (l++[b])=leN l+b*256^l.length:=by
 intro l;induction l with
 |nil=>intro b;simp[leN]
 |cons x l I=>intro b;simp only[fJ,leN,I,aW,Nat.pow_succ,Nat.mul_add];rw[<-oP,Nat.mul_comm (256^l.length) 256,<-Nat.mul_assoc b,Nat.mul_comm b 256,Nat.mul_assoc 256 b]
theorem K2 : ∀(l:List Nat),(∀b∈l,b<256)->leN l<256^l.length:=by
 intro l;induction l with
 |nil=>intro _;simp[leN]
 |cons x l I =>
  intro h;have h1:=I (λb hb=>h b (bk _ hb));have h2:=h x a_;simp only[leN,aW,Nat.pow_succ];omega
theorem K3 (i:Nat): (256:Nat)^i=2^(8*i):=by rw[Nat.pow_mul]
theorem aeC {x:Operand}(hd:d<256)(hi:i<=7): binV P h .shl t x y (.int .u64 (d:Int)) (.int .i64 (8*(i:Int)))=some (.int .u64 ((d*256^i:Nat):Int)):=by
 have hp:(256:Nat)^i<=256^7:=CZ (by omega) hi;have I:d*256^i<18446744073709551616:=by
  have:d*256^i<=255*256^7:=tG (by omega) hp;omega
 simp only[binV,shiftV,IntKind.bits];have e:(8*(i:Int)).toNat=8*i:=by omega
 rw[e,show min (8*i) 64=8*i by omega,show decide (8*(i:Int)<0)=false by simp;omega,aT];have:(d:Int)*2^(8*i)=((d*256^i:Nat):Int):=by rw[K3];push_cast;rfl
 simp only[this,wrap_u64 I]
theorem or8 {x:Operand}(I:a<256^i)(hd:d<256)(hi:i<=7): binV P h .or t x y (.int .u64 (a:Int)) (.int .u64 ((d*256^i:Nat):Int))=some (.int .u64 ((a+d*256^i:Nat):Int)):=by
 have hp:(256:Nat)^i<=256^7:=CZ (by omega) hi;have hm:d*256^i<=255*256^7:=tG (by omega) hp;have h1:((a:Int)%(2^(IntKind.u64).bits:Int)).toNat=a:=by simp only[IntKind.bits];omega
 have h2:(((d*256^i:Nat):Int)%(2^(IntKind.u64).bits:Int)).toNat=d*256^i:=by simp only[IntKind.bits];omega
 have h3:Nat.lor a (d*256^i)=a+d*256^i:=by
  have e:d*256^i=2^(8*i)*d:=by rw[<-K3,Nat.mul_comm]
  have:=Nat.two_pow_add_eq_or_of_lt (i:=8*i) (b:=a) (by rw[<-K3];exact I) d;rw[<-e] at this;rw[Nat.add_comm a,this];exact Nat.or_comm _ _
 simp only[binV,ikBeq,ag,intV,bitsV,h1,h2,h3];rw[wrap_u64 (by omega)]
section
variable {told:cu} {v:V}
noncomputable def wdL : Code:=dm [1,1,0,1,0,0] ((Tryz.f110.body).getD .skip)
theorem SU (hv:View h v l)(hl:l.length<=8): ∀(j i:Nat) (E:List (Nat×V)) (Q:Ex->List (Nat×V)->H->Prop),i+j=l.length ->
  Has E [(3,.int .u64 (leN (l.take i))),(6,v),(7,.int .i64 l.length),(8,.int .i64 i)]->(∀E',look E' 3=some (.int .u64 (leN l))->Q (.exit 0) E' h)->WP ⟨Tryz.prog,told⟩ 22 (.loop wdL) E h Q:=by
 intro j;induction j with
 |zero =>
  intro i E Q hi hE hq;refine WP.loop (WP.has hE (zg U (zC U aK (by simp;omega) ?_)));refine zk 3 U (WP.exit (hq _ ?_));rw[h_ (by omega)];rfl
 |succ j ih =>
  intro i E Q hi hE hq;have hb:l[i]?=some (l[i]'(by omega)):=aF _;generalize R8:(l[i]'(by omega))=b at hb;have I:b<256:=hv.1 b (aJ hb);obtain⟨id,off,e1,e2⟩:=eU hv hb;have ht:l.take (i+1)=l.take i++[b]:=by rw[nF,hb];rfl
  have cq:leN (l.take i)<256^i:=by
   have:=K2 (l.take i) (λx hx=>hv.1 x (iM hx))
   rwa [cz,yF (by omega)] at this
  refine WP.loop (WP.has hE (zg U (zB U aK (by simp;omega) ?_)));refine zk 5 U (WP.block (zK 3 U (zo U (bM (r:=.ptr id off) U U e1) (zl U e2 (zk 6 U (zo U (cS U (by exact kU Tryz.underlying5 eZ iO)) ?_))))));refine zm U (zb U (by exact jf ak) ?_);refine zb U (aeC I (by omega)) ?_;refine zb U (or8 cq I (by omega)) ?_;refine za U (zv (zr U (zb U (by exact aL ak) ?_)));refine zm U (zv ?_);refine ih (i+1) _ _ (by omega) ?_ hq;rw[ht,VT,cz,yF (by omega)];exact⟨U,U,U,U,aa⟩
theorem HZ (hT:W told)(s:Sat h S)(hk:getA S k=some X)(hX:cC X (cK v l))(hl:l.length<=8): Call ⟨Tryz.prog,told⟩ 110 [v] h λr h'=>r=.int .u64 (leN l)/\h'=h:=by
 have hv:=s.aC hk hX;refine Call.of_wp (hT.free _ U) Tryz.func110 U U (zK 12 U (zo U (aD U U U (bw aP hv)) (zk 2 U (WP.block ?_))));refine SU hv hl l.length 0 _ _ (by omega) ⟨U,U,U,U,aa⟩ (λE' I => ?_);exact WP.has (F:=[(3,.int .u64 (leN l))]) ⟨I,aa⟩ (zK 5 U (WP.ret ⟨aa,_,U,U,U⟩))
theorem Yh (I:W told)(s:Sat h S)(hk:getA S k=some X)(hX:cC X (cK v l))(hl:l.length<=4611686018427387904): Call ⟨Tryz.prog,told⟩ 200 [v] h λr h'=>r=.int .u32 (Gb 0 l:Nat)/\h'=h:=by
 refine Call.of_wp (I.free _ U) Tryz.func200 U U (zK 7 U (zc U (ZH (s:=0) I s hk hX (by decide) hl) ?_));rintro v h' ⟨rfl,rfl⟩;exact zk 2 U (WP.ret ⟨aa,_,U,U,U⟩)
def dQ (l:List Nat)(a z:Nat): Nat:=leN ((l.take (a+z)).drop a)
theorem wK (hT:W told){a z:Int}(s:Sat h S)(hk:getA S k=some X)(hX:cC X (cK v l))(ha:0<=a)(hz:1<=z)(K4:z<=7)(hl:a+z<=l.length)(iL:l.length<=65536):
  Call ⟨Tryz.prog,told⟩ 186 [.agg [v],.int .i64 a,.int .i64 z] h λr h'=>r=.int .i64 (dQ l a.toNat z.toNat)/\Sat h' S:=by
 have hv:=s.aC hk hX;obtain⟨pi,po,pc,rfl⟩:=iB hv;refine Call.of_wp (hT.free _ U) Tryz.func186 U U (zg U ?_);refine au.cj s U U U (fC U U) (λp3 h s => ?_);refine zk 4 U (zY s 0 ey bS U (zk 3 U (zb U (by exact aL ak) ?_)));refine zk 2 U (zb U (by exact aL ak) ?_);have jF:=uh (s.aC (kT hk) hX) (a:=a.toNat) (b:=(a+z).toNat) (c:=(a+z).toNat) (by omega) (by omega) (by omega) (by omega);refine zo U (bK (p:=some (.int .i64 a)) (q:=some (.int .i64 (a+z))) (m:=some (.int .i64 (a+z))) U U U U (bN ha) bN bN jF) ?_;have hlen:((l.take (a+z).toNat).drop a.toNat).length=z.toNat:=by simp;omega
 refine zc U (HZ hT s (kT hk) (B0 hX (a:=a.toNat) (b:=(a+z).toNat) (c:=(a+z).toNat) (by omega) (by omega) (by omega) (by omega)) (by omega)) ?_;rintro r h' ⟨rfl,rfl⟩;have I:=K2 ((l.take (a+z).toNat).drop a.toNat) (λx hx=>hv.1 x (iM (i_ hx)));have hp:256^z.toNat<=256^7:=CZ (by omega) (by omega);rw[hlen] at I;have e:(a+z).toNat=a.toNat+z.toNat:=by omega
 rw[e] at I ⊢;refine zo U (cS U (by exact kU eZ b_ ak)) ?_;exact zk 2 U (WP.ret ⟨aa,_,U,U,s.drop⟩)
theorem Gd (hl:∀b∈l,b<256): dQ l a z<256^z:=by
 have:=K2 ((l.take (a+z)).drop a) (λx I=>hl x (iM (i_ I)));have h2:((l.take (a+z)).drop a).length<=z:=by simp;omega
 exact j_ this (CZ (by omega) h2)
def jI (l:List Nat): Nat:=dQ l 14 2
def dA (l:List Nat): Nat:=dQ l 16 2
def bB (l:List Nat)(i:Nat): Nat:=dQ l (26+4*i) 2
def er (l:List Nat)(i:Nat): Nat:=dQ l (26+4*i+2) 2
theorem gy (I:W told)(s:Sat h S)(hk:getA S k=some X)(hX:cC X (cK v l))(hl:l.length=512):
  Call ⟨Tryz.prog,told⟩ 120 [.agg [v]] h λr h'=>r=.int .i64 (jI l)/\Sat h' S:=by
 have hv:=s.aC hk hX;obtain⟨pi,po,pc,rfl⟩:=iB hv;refine Call.of_wp (I.free _ U) Tryz.func120 U U (zg U ?_);refine au.cj s U U U (fC U U) (λp1 h s => ?_);refine zk 4 U (zl U (s.b9 (k:=0) U bC aV) (zc U (wK I s (kT hk) hX (by decide) (by decide) (by decide) (by omega) (by omega)) ?_));rintro r h' ⟨rfl,s⟩;exact zk 2 U (WP.ret ⟨aa,_,U,U,s.drop⟩)
theorem B6 (I:W told)(s:Sat h S)(hk:getA S k=some X)(hX:cC X (cK v l))(hl:l.length=512):
  Call ⟨Tryz.prog,told⟩ 124 [.agg [v]] h λr h'=>r=.int .i64 (dA l)/\Sat h' S:=by
 have hv:=s.aC hk hX;obtain⟨pi,po,pc,rfl⟩:=iB hv;refine Call.of_wp (I.free _ U) Tryz.func124 U U (zg U ?_);refine au.cj s U U U (fC U U) (λp1 h s => ?_);refine zk 4 U (zl U (s.b9 (k:=0) U bC aV) (zc U (wK I s (kT hk) hX (by decide) (by decide) (by decide) (by omega) (by omega)) ?_));rintro r h' ⟨rfl,s⟩;exact zk 2 U (WP.ret ⟨aa,_,U,U,s.drop⟩)
end
def A4 (t:List Bool): List V:=t.map V.bool
theorem ZM (t:List Bool)(k:Nat)(b:Bool): (A4 t).set k (.bool b)=A4 (t.set k b):=by simp[A4,Dd]
theorem Oq {t:List Bool}(I:k<t.length): nth (A4 t) k=some (.bool (t.getD k false)):=by
 rw[gE];simp[A4,aF I]
theorem VU : zeroT Tryz.prog 257=some (.agg (A4 (List.replicate 512 false))):=by kernel_rfl
def markL : Nat->Nat->List Bool->Option (List Bool)
 |0,_,t=>some t
 |n+1,k,t=>if t.getD k false then none else markL n (k+1) (t.set k true)
def cellsL (l:List Nat)(low:Nat): Nat->Nat->List Bool->Bool
 |0,_,_=>true
 |n+1,i,t=>if bB l i<low\/512<bB l i+er l i then false else match markL (er l i) (bB l i) t with
  |none=>false
  |some t'=>cellsL l low n (i+1) t'
def cI (l:List Nat): Bool:=decide (l.length=512)&&(decide (l.getD 13 0=0)&&(decide (26+4*jI l<=dA l/\dA l<=512)&&cellsL l (dA l) (jI l) 0 (List.replicate 512 false)))
theorem SV : ∀(n k:Nat) (t t':List Bool),markL n k t=some t'->t'.length=t.length:=by
 intro n;induction n with
 |zero=>intro k t t' h;simp only[markL] at h;injection h with h;subst h;rfl
 |succ n I =>
  intro k t t' h;simp only[markL] at h;split at h
  .cases h
  .have:=I _ _ _ h;simpa using this
section
variable {told:cu} {v:V}
theorem tQ (I:W told)(s:Sat h S)(hk:getA S k=some X)(hX:cC X (cK v l))(hl:l.length=512)(hi:30+4*i<=512):
  Call ⟨Tryz.prog,told⟩ 121 [.agg [v],.int .i64 (i:Int)] h λr h'=>r=.aX [.int .i64 (bB l i),.int .i64 (er l i)]/\Sat h' S:=by
 have hv:=s.aC hk hX;obtain⟨pi,po,pc,rfl⟩:=iB hv;have e1:(26+4*(i:Int)).toNat=26+4*i:=by omega
 have e2:(26+4*(i:Int)+2).toNat=26+4*i+2:=by omega
 refine Call.of_wp (I.free _ U) Tryz.func121 U U (zg U ?_);refine au.cj s U U U (fC U U) (λp2 h s => ?_);refine zk 6 U (zb U (by exact jf ak) ?_);refine zb U (by exact aL ak) ?_;refine zk 3 U ?_;have s0:=s;refine WP.drawn [af,af,af,some (0,2),some (0,2),some (0,2),af,af,af] U (by kernel_rfl) (by kernel_rfl) ?_;refine zL U (s.b9 (k:=0) U bC aV) (zM U (aB.any U U U U (OpR.call U U U U (wK I s (kT hk) hX (by omega) (by decide) (by decide) (by omega) (by omega))) ?_));rintro r h' ⟨rfl,s⟩;rw[e1];have s1:=s;refine zL U (s.b9 (k:=0) U bC aV) (zM U (zO U (aq U U (by exact aL ak)) ?_));refine aB.any U U U U (OpR.call U U U U (wK I s (kT hk) hX (by omega) (by decide) (by decide) (by omega) (by omega))) ?_;rintro r h' ⟨rfl,s⟩;rw[e2];refine zA U (zA U ?_);refine aB.nil ⟨⟨aa,aa,aa,gF (.inr ⟨U,⟨_,o_load U (s0.b9 (k:=0) U bC aV)⟩,bx _ U⟩) (.inr ⟨U,⟨_,o_load U (s1.b9 (k:=0) U bC aV)⟩,bx _ U⟩),λ_ _=>.inr ⟨U,⟨_,b7 U⟩,bx _ U⟩,λ_ _=>.inr ⟨U,⟨_,aq U U (by exact aL ak)⟩,bx _ U⟩,yr 4⟩,?_⟩;refine WP.ret ⟨aa,_,U,?_⟩;exact⟨U,s.drop⟩
noncomputable def gdO : Code:=dm [1,1,1,1,1,1,0,1,0,0] ((Tryz.f134.body).getD .skip)
noncomputable def gdI : Code:=dm [1,1,1,1,1,1,0,1,0,0,1,1,0,0,1,1,1,1,0,0] ((Tryz.f134.body).getD .skip)
theorem Qp {v3 v4 v5 v35 v36:V}(Yi:a+z<=512): ∀(m q:Nat) (t:List Bool) (h:H) (E:List (Nat×V)) (Q:Ex->List (Nat×V)->H->Prop),q+m=a+z->t.length=512 ->
  Sat h (pt p6 (.cells 512 (A4 t) false)::S)->Has E [(3,v3),(4,v4),(5,v5),(6,.ptr p6 0),(8,.int .i64 (a:Int)),(9,.int .i64 (z:Int)),(10,.int .i64 (q:Int)),(35,v35),(36,v36)] ->
  (markL m q t=none->∀E' h',look E' 2=some (.bool false)->Sat h' S->Q .ret E' h') ->
  (∀t' E' h',markL m q t=some t'->Has E' [(3,v3),(4,v4),(5,v5),(6,.ptr p6 0),(35,v35),(36,v36)]->Sat h' (pt p6 (.cells 512 (A4 t') false)::S)->Q (.exit 2) E' h') ->
  WP ⟨Tryz.prog,told⟩ 68 (.loop gdI) E h Q:=by
 intro m;induction m with
 |zero =>
  intro q t h E Q hq ht s hE hr hx;refine WP.loop (WP.has hE (zK 6 U (zb U (by exact aL ak) ?_)));refine zC U aK (by simp;omega) ?_;exact zk 2 U (WP.exit (hx t _ _ U ⟨U,U,U,U,U,U,aa⟩ s))
 |succ m ih =>
  intro q t h E Q hq ht s hE hr hx;have I:q<t.length:=by omega
  refine WP.loop (WP.has hE (zK 6 U (zb U (by exact aL ak) ?_)));refine zB U aK (by simp;omega) ?_;refine zk 4 U (WP.block (zK 4 U (zo U (bM (r:=.ptr p6 q) U U (by rw[Yc,show(decide ((0:Int)<=(q:Int))&&decide ((q:Int)<((512:Nat):Int)))=true by simp;omega,ag];simp)) ?_)));cases hm:t.getD q false with
  |true =>
   refine zt U (o_load U (s.ld (k:=0) U sH (Oq I))) (hm) (zk 6 U (WP.ret ?_));refine hr ?_ _ _ U s.drop;rw[markL,ay hm]
  |false =>
   refine zh U (o_load U (s.ld (k:=0) U sH (Oq I))) (hm) (zk 5 U (zo U (bM (r:=.ptr p6 q) U U (by rw[Yc,show(decide ((0:Int)<=(q:Int))&&decide ((q:Int)<((512:Nat):Int)))=true by simp;omega,ag];simp)) ?_));refine zS U (s.kC (k:=0) U BU (by simp[A4,ht]) (by omega) U U) ?_;intro h s;dsimp only[setA] at s;rw[ZM] at s;refine zv (zr U (zm U (zb U (by exact aL ak) ?_)));refine za U (zv ?_);have e:markL (m+1) q t=markL m (q+1) (t.set q true):=by rw[markL,ai (by rw[hm];decide)]
   rw[e] at hr hx;exact ih (q+1) (t.set q true) h _ Q (by omega) (by simp[ht]) s ⟨U,U,U,U,U,U,U,U,U,aa⟩ hr hx
theorem Qq (hT:W told){p3:Nat}{low:Nat}(hX:cC X (cK x l))(hl:l.length=512)(cq:∀b∈l,b<256)(IN:x.cells=[x])(hx2:storable x=true)(hn:n=jI l)(oY:26+4*n<=low)(afY:low<=512): ∀(m i:Nat) (t:List Bool) (h:H) (E:List (Nat×V)) (Q:Ex->List (Nat×V)->H->Prop),i+m=n->t.length=512 ->
  Sat h (pt p6 (.cells 512 (A4 t) false)::pt p3 (.cells 1 [x] false)::X::S)->Has E [(3,.ptr p3 0),(4,.int .i64 (n:Int)),(5,.int .i64 (low:Int)),(6,.ptr p6 0),(35,.int .i64 (n:Int)),(36,.int .i64 (i:Int))] ->
  (cellsL l low m i t=false->∀E' h',look E' 2=some (.bool false)->Sat h' (X::S)->Q .ret E' h') ->
  (cellsL l low m i t=true->∀E' h',Sat h' (X::S)->Q (.exit 0) E' h') ->
  WP ⟨Tryz.prog,told⟩ 68 (.loop gdO) E h Q:=by
 intro m;induction m with
 |zero =>
  intro i t h E Q hi ht s hE hr hx;refine WP.loop (WP.has hE (zg U (zC U aK (by simp;omega) ?_)));exact zk 3 U (WP.exit (hx U _ _ s.drop.drop))
 |succ m ih =>
  intro i t h E Q hi ht s hE hr hx;have hf:=Gd (l:=l) (a:=26+4*i) (z:=2) cq;have hz:=Gd (l:=l) (a:=26+4*i+2) (z:=2) cq;have ef:bB l i=dQ l (26+4*i) 2:=rfl;have ez:er l i=dQ l (26+4*i+2) 2:=rfl;refine WP.loop (WP.has hE (zg U (zB U aK (by simp;omega) ?_)));refine zk 5 U (WP.block (zK 7 U (zl U (s.b9 (k:=1) U bC aV) (zm U (zc U (tQ (i:=i) hT s (k:=2) U hX hl (by omega)) ?_)))));rintro r h' ⟨rfl,s⟩;refine zk 11 U ?_;refine zd U (aq U U aK) ?_ ?_
  .intro hq;have hq:bB l i<low:=by simp at hq;omega
   refine zk 12 U (WP.ret ?_);refine hr ?_ _ _ U s.drop.drop;rw[cellsL,ay (.inl hq)]
  .intro hq;have hq:low<=bB l i:=by simp at hq;omega
   refine zk 3 U (zb U (by exact aL ak) ?_);refine zd U (aq U U cA) ?_ ?_
   .intro I;have I:512<bB l i+er l i:=by simp at I;omega
    refine zk 7 U (WP.ret ?_);refine hr ?_ _ _ U s.drop.drop;rw[cellsL,ay (.inr I)]
   .intro I;have I:bB l i+er l i<=512:=by simp at I;omega
    refine zk 9 U (WP.block ?_);have e:cellsL l low (m+1) i t=(match markL (er l i) (bB l i) t with|none=>false|some t'=>cellsL l low m (i+1) t'):=by rw[cellsL,ai (by omega)]
    rw[e] at hr hx;refine Qp I (er l i) (bB l i) t _ _ _ U ht s ⟨U,U,U,U,U,U,U,U,U,aa⟩ (λhm E' h' h2 s' => ?_) (λt' E' h' hm dY s' => ?_)
    .rw[hm] at hr;exact hr U _ _ h2 s'.drop
    .rw[hm] at hr hx;refine WP.has dY (zr U (zb U (by exact aL ak) ?_));refine zm U (zv ?_);exact ih (i+1) t' h' _ Q (by omega) (by rw[SV _ _ _ _ hm,ht]) s' ⟨U,U,U,U,U,U,aa⟩ hr hx
theorem Ot (hT:W told)(s:Sat h (X::S))(hX:cC X (cK v l))(iL:l.length<9223372036854775808):
  Call ⟨Tryz.prog,told⟩ 134 [v] h λr h'=>r=.bool (cI l)/\Sat h' (X::S):=by
 have hv:=s.aC (k:=0) U hX;refine Call.of_wp (hT.free _ U) Tryz.func134 U U (zK 8 U (zo U (aD U U U (bw aP (s.aC (k:=0) U hX))) ?_));refine zd U (aq U U aG) ?_ ?_
 .intro hq;have hq:l.length≠512:=by simp at hq;omega
  exact zk 12 U (WP.ret ⟨aa,_,U,by rw[cI,f_ hq,mK],s⟩)
 .intro hq;have hq:l.length=512:=by simp at hq;omega
  have hb:l[13]?=some (l[13]'(by omega)):=aF _;generalize R8:(l[13]'(by omega))=b at hb;have qQ:l.getD 13 0=b:=by rw[tu,hb];rfl
  obtain⟨id,off,e1,e2⟩:=eU hv hb;refine zk 2 U (zo U (bM (r:=.ptr id off) U U e1) (zl U e2 ?_));refine zd U (aq U U aG) ?_ ?_
  .intro I;have I:b≠0:=by simp at I;omega
   exact zk 7 U (WP.ret ⟨aa,_,U,by rw[cI,dZ hq,qQ,f_ I,mK,Bool.and_false],s⟩)
  .intro I;have I:b=0:=by simp at I;omega
   obtain⟨pi,po,pc,rfl⟩:=iB hv;refine zk 7 U (zo U (cO U (by rw[As];rfl)) ?_);refine au.cj s U U U (cm jD) (λp3 h s => ?_);refine zS U (s.gZ (j:=0) U aV U U) (λh s => ?_);refine zk 2 U ?_;have s0:=s;refine WP.drawn [none,none,some (0,2),af,af,af] U (by kernel_rfl) (by kernel_rfl) ?_;refine zL U (s.b9 (k:=0) U bC aV) (aB.any U U U U (OpR.call U U U U (gy hT s (k:=1) U hX hq)) ?_);rintro r h' ⟨rfl,s⟩;have s1:=s;refine zL U (s.b9 (k:=0) U bC aV) (aB.any U U U U (OpR.call U U U U (B6 hT s (k:=1) U hX hq)) ?_);rintro r h' ⟨rfl,s⟩;refine zA U (zA U ?_);refine aB.nil ⟨⟨aa,aa,gF (.inr ⟨U,⟨_,o_load U (s0.b9 (k:=0) U bC aV)⟩,bx _ U⟩) (.inr ⟨U,⟨_,o_load U (s1.b9 (k:=0) U bC aV)⟩,bx _ U⟩),yr 4⟩,?_⟩;have A1:=Gd (l:=l) (a:=14) (z:=2) hv.1;have yQ:=Gd (l:=l) (a:=16) (z:=2) hv.1;have ec:jI l=dQ l 14 2:=rfl;have el:dA l=dQ l 16 2:=rfl;refine zK 4 U (zb U (by exact jf ak) ?_);refine zb U (by exact aL ak) ?_;refine zm U ?_;refine zd U (aq U U cA) ?_ ?_
   .intro qO;have qO:dA l<26+4*jI l:=by simp at qO;omega
    exact zk 10 U (WP.ret ⟨aa,_,U,by rw[cI,dZ hq,qQ,dZ I,f_ (by omega:¬(26+4*jI l<=dA l/\dA l<=512))];rfl,s.drop⟩)
   .intro qO;have qO:26+4*jI l<=dA l:=by simp at qO;omega
    refine zk 2 U ?_;refine zd U (aq U U cA) ?_ ?_
    .intro qP;have qP:512<dA l:=by simp at qP;omega
     exact zk 7 U (WP.ret ⟨aa,_,U,by rw[cI,dZ hq,qQ,dZ I,f_ (by omega:¬(26+4*jI l<=dA l/\dA l<=512))];rfl,s.drop⟩)
    .intro qP;have qP:dA l<=512:=by simp at qP;omega
     refine zk 6 U (au.cj s U U U (cm VU) ?_);intro p6 h s;have K5:(A4 (List.replicate 512 false)).length=512:=by rw[A4,cf,gA]
     dsimp only[V.cells] at s;rw[K5] at s;refine zk 7 U (WP.block ?_);have hg:cI l=cellsL l (dA l) (jI l) 0 (List.replicate 512 false):=by
      rw[cI,dZ hq,qQ,dZ I,dZ (⟨qO,qP⟩:26+4*jI l<=dA l/\dA l<=512)];rfl
     refine Qq hT hX hq hv.1 U U U qO qP (jI l) 0 (List.replicate 512 false) _ _ _ (by omega) gA s ⟨U,U,U,U,U,U,aa⟩ (λhc E' h' h2 s' => ?_) (λhc E' h' s' => ?_)
     .rw[hg,hc];exact⟨aa,_,Aq h2,U,s'⟩
     .rw[hg,hc];exact WP.has (F:=[]) aa (zK 4 U (WP.ret ⟨aa,_,U,U,s'⟩))
end
section
variable {told:cu} {v:V}
theorem Ge (I:W told)(s:Sat h (bf v l::S))(hz:z<=8)(hl:l.length+z<=140737488355328):
  Call ⟨Tryz.prog,told⟩ 189 [v,.int .i64 (z:Int),.int .u64 (n:Int)] h λr h'=>Sat h' (bf r (l++le z n)::S) :=
 (SL I.Yg s.wf (s.buf (k:=0) U) hz hl).mono λ_ _ ⟨h1,h2,h3⟩=>s.Dx h2 h1 h3
theorem nW (hT:W told)(s:Sat h (bf v l::S))(hz:1<=z)(K4:z<=8)(hl:a+z<=l.length)(iL:l.length<=65536):
  Call ⟨Tryz.prog,told⟩ 130 [.agg [v],.int .i64 (a:Int),.int .i64 (z:Int),.int .u64 (n:Int)] h λr h'=>r=.aX []/\Sat h' (bf v (az l a (le z n))::S):=by
 obtain⟨I,_,cap,_,rfl,_⟩:=s.eX (by omega);refine Call.of_wp (hT.free _ U) Tryz.func130 U U (zg U ?_);refine au.cj s U U U (fC U U) (λp4 h s => ?_);refine zv ?_;have s0:=s;refine WP.drawn [some (0,2),some (0,2),some (0,2),some (0,2),some (0,2),some (0,2),some (0,2),af,af,af,af] U (by kernel_rfl) (by kernel_rfl) ?_;refine zF U (ey _ _) (zL U (s.ld (k:=0) U bS U) (zM U (zM U (zM U (zO U (aq U U (by exact aL ak)) ?_)))));have ez:((a:Int)+(z:Int)).toNat=a+z:=by omega
 have ea:((a:Int)).toNat=a:=by omega
 refine zO U (bK (p:=some (.int .i64 (a:Int))) (q:=some (.int .i64 ((a:Int)+(z:Int)))) (m:=none) (p':=some a) (q':=some (a+z)) (m':=none) U U U U (by rw[bN,ea]) (by rw[bN,ez]) U (fR (s.buf (k:=1) U).view (by omega) hl).1) ?_;refine zM U (zM U (aB.any U U U U (OpR.call U U U U (Ge hT s.F3 K4 (by simp;omega))) ?_));intro u h s;have s:=s.ae [1,1,0];dsimp only[List.nil_append,V.cells,List.length_cons,List.length_nil,Nat.reduceAdd,bringA,getA,aM] at s;have s1:=s;refine aB.any U U U U (OpR.adv U (s.ae [1,1]) (bh _ _) U U U U (by omega) hl (by simp[cQ];omega)) ?_;intro r h s;have hs:∃q c,slR (V.sl I 0 l.length cap) a (a+z)=.sl I q (a+z-a) c:=by
  cases cap with
  |exact c=>exact⟨_,_,U⟩
  |rest e alt=>exact⟨_,_,U⟩
 obtain⟨q,c,hs⟩:=hs;have K6:(slR (V.sl I 0 l.length cap) a (a+z)).beq (slR (V.sl I 0 l.length cap) a (a+z))=true:=by rw[hs];exact Ap _ _ _ _
 refine aB.nil ⟨⟨λ_ _=>.inr ⟨U,⟨_,m9 U (ey _ _)⟩,bx _ U⟩,gF (.inr ⟨U,⟨_,o_load U (s0.ld (k:=0) U bS U)⟩,bx _ U⟩) (.inr ⟨U,⟨_,o_load U (s1.ld (k:=0) U bS U)⟩,bx _ U⟩),λ_ _=>.inr ⟨U,⟨_,b7 U⟩,bx _ U⟩,λ_ _=>.inr ⟨U,⟨_,b7 U⟩,bx _ U⟩,λ_ _=>.inr ⟨U,⟨_,b7 U⟩,bx _ U⟩,λ_ _=>.inr ⟨U,⟨_,aq U U (by exact aL ak)⟩,bx _ U⟩,gF (.inr ⟨U,⟨_,bK (p:=some (.int .i64 (a:Int))) (q:=some (.int .i64 ((a:Int)+(z:Int)))) (m:=none) (p':=some a) (q':=some (a+z)) (m':=none) U U U U (by rw[bN,ea]) (by rw[bN,ez]) U (fR (s0.buf (k:=1) U).view (by omega) hl).1⟩,K6⟩) (.inr ⟨U,⟨_,bK (p:=some (.int .i64 (a:Int))) (q:=some (.int .i64 ((a:Int)+(z:Int)))) (m:=none) (p':=some a) (q':=some (a+z)) (m':=none) U U U U (by rw[bN,ea]) (by rw[bN,ez]) U (fR (s1.buf (k:=1) U).view (by omega) hl).1⟩,K6⟩),yr 5⟩,?_⟩;refine⟨aa,_,U,U,?_⟩;rw[show a+z-a=z by omega,h_ (by rw[cQ];omega)] at s;exact(s.del 1).del 1
theorem uF (hT:W told)(s:Sat h (X::S))(hX:cC X (cK v l))(iL:l.length<9223372036854775808):
  Call ⟨Tryz.prog,told⟩ 185 [v] h λr h'=>Sat h' (X::S)/\((cI l=true/\r=.aX [.agg [v],.int .i64 0])\/(cI l=false/\r=.aX [.agg [.aZ],.int .i64 4])):=by
 have hv:=s.aC (k:=0) U hX;refine Call.of_wp (hT.free _ U) Tryz.func185 U U (zg U ?_);refine au.cj s U U U (cm jD) (λp2 h s => ?_);refine zk 6 U (zc U (Ot hT (s.ae [1]) hX iL) ?_);rintro r h' ⟨rfl,s⟩;cases hg:cI l with
 |true =>
  have I:1<=l.length:=by
   have:l.length=512:=by simp only[cI,bV,ke] at hg;exact hg.1
   omega
  obtain⟨pi,po,pc,rfl⟩:=iB hv I;refine zo U (eo U U) (zk 6 U (zo U (cO U (by rw[As];rfl)) ?_));refine zS U (s.gZ (j:=1) U aV U U) (λh s => ?_);refine zk 2 U ?_;refine WP.ret ⟨aa,_,JV U (s.b9 (k:=1) U bC aV) U,?_⟩;exact⟨s.del 1,.inl ⟨U,U⟩⟩
 |false =>
  refine zo U (eo U U) (zk 4 U (zo U (cO U (by rw[As];rfl)) ?_));refine zS U (s.gZ (j:=1) U aV U U) (λh s => ?_);refine zk 2 U ?_;refine WP.ret ⟨aa,_,JV U (s.b9 (k:=1) U bC aV) U,?_⟩;exact⟨s.del 1,.inr ⟨U,U⟩⟩
theorem jy (I:cI l=true): l.length=512:=by simp only[cI,bV,ke] at I;exact I.1
theorem pS (hT:W told)(s:Sat h (X::S))(hX:cC X (cK v l))(iL:l.length<9223372036854775808):
  Call ⟨Tryz.prog,told⟩ 119 [v] h λr h'=>(cI l=true/\∃u,r=.aX [.agg [u],.int .i64 0]/\Sat h' (bf u l::X::S))\/(cI l=false/\r=.aX [.agg [.aZ],.int .i64 4]/\Sat h' (X::S)):=by
 have hv:=s.aC (k:=0) U hX;refine Call.of_wp (hT.free _ U) Tryz.func119 U U (zg U ?_);refine au.cj s U U U (cm jD) (λp2 h s => ?_);refine zk 5 U (zc U (uF hT (s.ae [1]) hX iL) ?_);rintro r h' ⟨s,(⟨I,rfl⟩|⟨I,rfl⟩)⟩
 .have Qr:=jy I;obtain⟨pi,po,pc,rfl⟩:=iB hv;refine zk 3 U ?_;refine au.cj s U U U (cm jD) (λp4 h s => ?_);refine zS U (s.gZ (j:=0) U aV U U) (λh s => ?_);refine zk 6 U (zC U aG (U) (zk 4 U ?_));have s0:=s;refine WP.drawn [af,af,af,af,some (0,2),some (0,2),af,af,af,af] U (by kernel_rfl) (by kernel_rfl) ?_;refine zF U (ey _ _) (zL U (s.ld (k:=0) U bS U) (zO U (aD U U U (tO U aP)) (aB.any U U U U (OpR.uD U s U U U U (by omega)) ?_)));intro u h s;have s:=s.ae [1,1,1,0];have s1:=s;refine zF U (ey _ _) (zL U (s.ld (k:=0) U bS U) (aB.any U U U U (OpR.qB U (s.ae [3,1]) hX U U U U (by simp;omega)) ?_));intro u2 h s;rw[dL] at s;obtain⟨lS,_,cap,_,rfl,_⟩:=s.eX (by omega);have s2:=s;refine zO U (cO U (by rw[As];rfl)) ?_;refine aB.lJ U U U (OpR.yW U U U (s.gZ (j:=3) U aV U U)) ?_;rintro w h ⟨rfl,s⟩;have s3:=s;refine zA U ?_;refine aB.nil ⟨⟨aa,aa,aa,aa,λ_ _=>.inr ⟨U,⟨_,m9 U (ey _ _)⟩,bx _ U⟩,gF (.inr ⟨U,⟨_,o_load U (s0.ld (k:=0) U bS U)⟩,bx _ U⟩) (.inr ⟨U,⟨_,o_load U (s1.ld (k:=0) U bS U)⟩,bx _ U⟩),yr 5⟩,?_⟩;refine WP.ret ⟨aa,_,JV U (s.b9 (k:=3) U bC aV) U,?_⟩;exact .inl ⟨I,_,U,(s.del 2).del 2⟩
 .skip;refine zk 3 U ?_;refine au.cj s U U U (cm jD) (λp4 h s => ?_);refine zS U (s.gZ (j:=0) U aV U U) (λh s => ?_);refine zk 6 U (zB U aG (U) (zk 4 U (zo U (cO U (by rw[As];rfl)) ?_)));refine zm U ?_;refine zS U (s.gZ (j:=2) U aV U U) (λh s => ?_);refine zk 2 U ?_;refine WP.ret ⟨aa,_,JV U (s.b9 (k:=2) U bC aV) U,?_⟩;exact .inr ⟨I,U,(s.del 2).del 0⟩
def rj (l:List Nat)(n:Nat): List Nat:=az l 4 (le 8 n)
def eV (l:List Nat)(n:Nat): List Nat:=az (rj l n) 0 (le 4 (Gb 0 ((rj l n).drop 4)))
theorem Ax (hl:l.length=512): (rj l n).length=512:=by rw[rj,bG (by rw[cQ];omega),hl]
theorem ZN (I:W told)(s:Sat h (X::S))(hX:cC X (cK v l))(iL:l.length<9223372036854775808):
  Call ⟨Tryz.prog,told⟩ 151 [v,.int .u64 (n:Int)] h λr h'=>(cI l=true/\∃u,r=.aX [u,.int .i64 0]/\Sat h' (bf u (eV l n)::X::S))\/(cI l=false/\r=.aX [.aZ,.int .i64 4]/\Sat h' (X::S)):=by
 refine Call.of_wp (I.free _ U) Tryz.func151 U U (zK 8 U (zc U (pS I s hX iL) ?_));rintro r h' (⟨hg,u,rfl,s⟩|⟨hg,rfl,s⟩)
 .have Qr:=jy hg;have wL:(rj l n).length=512:=Ax Qr;obtain⟨lS,_,cap,_,rfl,_⟩:=s.eX (by omega);refine zk 3 U ?_;refine au.cj s U U U (cm jD) (λp6 h s => ?_);refine zS U (s.gZ (j:=0) U aV U U) (λh s => ?_);refine zk 6 U (zC U aG (U) (zk 5 U (zl U (s.b9 (k:=0) U bC aV) (zm U (zc U (nW (a:=4) (z:=8) I (s.ae [1]) (by decide) (by decide) (by omega) (by omega)) ?_)))));rintro r h' ⟨rfl,s⟩;have s:=s.ae [1,0];have s:Sat _ (_::bf _ (rj l n)::_):=s;refine zk 2 U ?_;have s0:=s;have SW:=(s.buf (k:=1) U).view.1;have ec:(rj l n).length=l.length:=by omega
  rw[<-ec] at *;refine WP.drawn [some (0,2),af,af,af,af,af,af] U (by kernel_rfl) (by kernel_rfl) ?_;refine zL U (s.b9 (k:=0) U bC aV) (zF U (ey _ _) (zL U (s.ld (k:=0) U bS U) (zO U (bK (p:=some (.int .i64 4)) (q:=none) (m:=none) (p':=some 4) (q':=none) (m':=none) U U U U U U U (iu (s.buf (k:=1) U).view (a:=4) (by omega)).1) ?_)));refine aB.any U U U U (OpR.call U U U U (Yh I s (k:=1) U (Oj (bh _ _) (a:=4) (by omega)) (by simp;omega))) ?_;rintro r h' ⟨rfl,rfl⟩;have s1:=s;have hc:=EB (s:=0) (l:=(rj l n).drop 4) (by decide) (λx hx=>SW x (i_ hx));refine aB.op U U U (by simp only[isEff,eZ]) (cS U (by exact kU Tryz.underlying260 eZ iO)) ?_;refine aB.any U U U U (OpR.call U U U U (nW (a:=0) (z:=4) I (s.ae [1]) (by decide) (by decide) (by omega) (by omega))) ?_;rintro r h ⟨rfl,s⟩;have s:=s.ae [1,0];refine aB.nil ⟨⟨gF (.inr ⟨U,⟨_,o_load U (s0.b9 (k:=0) U bC aV)⟩,bx _ U⟩) (.inr ⟨U,⟨_,o_load U (s1.b9 (k:=0) U bC aV)⟩,bx _ U⟩),yr 7⟩,?_⟩;exact zg U (zY s 0 ey bS U (zk 3 U (WP.ret ⟨aa,_,U,.inl ⟨hg,_,U,s.drop⟩⟩)))
 .skip;refine zk 3 U ?_;refine au.cj s U U U (cm jD) (λp6 h s => ?_);refine zS U (s.gZ (j:=0) U aV U U) (λh s => ?_);exact zk 6 U (zB U aG (U) (zk 8 U (WP.ret ⟨aa,_,U,.inr ⟨hg,U,s.drop⟩⟩)))
theorem aeD {d:TypeId}{x:Operand}{r:V}(I:bE E x=some v)(hf:arrPtrV P d v=some r): opE P E h (.sliceToArrayPointer d x)=some (r,h):=by simp only[opE,lD,I,hf,bO]
theorem ZO {cap:Cap}(hv:View h (.sl id off n cap) l)(I:isAggT P t=some true)(hs:bq P t=some l.length): loadV P h t (.ptr id off)=some (.agg (ofBytes l)):=by
 have:=hv.rdN;obtain⟨rfl,h2⟩:=this;simp only[loadV,I,hs,h2,gQ]
theorem JK : ∀(l m:List Nat),l.length=m.length->intsBeq .u8 (ofBytes l) (ofBytes m)=some (decide (l=m)):=by
 intro l;induction l with
 |nil=>intro m hm;cases m with
  |nil=>rfl
  |cons x m=>simp at hm
 |cons x l ih=>intro m hm;cases m with
  |nil=>simp at hm
  |cons y m =>
   have hi:=ih m (by simpa using hm);simp only[ofBytes,gB] at hi ⊢;simp only[intsBeq,ikBeq,kf,ag,hi,sM];by_cases I:x=y
   .subst I;simp
   .have:¬ ((x:Int)=(y:Int)):=by omega
    simp[this,I]
theorem VV : buildV Tryz.prog 269 []=some (.agg (ofBytes (List.replicate 512 0))):=by kernel_rfl
theorem Yj {x:Operand}{m:List Nat}(hu:P.underlying t=some (.array n e))(he:P.underlying e=some (.int .u8))(hs:bq P e=some 1)(hl:l.length=n)(hm:m.length=n):
  binV P h .eql t x y (.agg (ofBytes l)) (.agg (ofBytes m))=some (.bool (decide (l=m))):=by
 simp only[binV,eqArr,hu,he,hs,dJ,hl,hm,kg,kf,ag];rw[JK l m (by omega)];rfl
def jJ (l:List Nat): Int:=if l=List.replicate 512 0 then 0 else if cI l=false then 4 else if dQ l 0 4≠Gb 0 (l.drop 4) then 8 else 0
theorem K7 (hT:W told)(s:Sat h (X::S))(hX:cC X (cK v l))(iL:l.length<9223372036854775808):
  Call ⟨Tryz.prog,told⟩ 149 [v] h λr h'=>r=.int .i64 (jJ l)/\Sat h' (X::S):=by
 have hv:=s.aC (k:=0) U hX;have hz:(List.replicate 512 0).length=512:=gA
 -- what follows when the page is no page of noughts
 refine Call.of_wp (hT.free _ U) Tryz.func149 U U (zK 8 U (zo U (aD U U U (bw aP (s.aC (k:=0) U hX))) ?_));refine zd U (aq U U dK) ?_ ?_
 .intro hq;have hq:l.length=512:=by simp at hq;omega
  obtain⟨pi,po,pc,rfl⟩:=iB hv;refine zk 2 U (zo U (aeD (r:=.ptr pi po) U (by simp only[arrPtrV,KT];rw[hq];rfl)) ?_);refine zl U (ZO hv adp (by rw[hq];exact ado)) ?_;refine zo U (cO U VV) ?_;by_cases hn:l=List.replicate 512 0
  .skip;exact zB U (Yj KT Tryz.underlying5 X9 hq hz) (decide_eq_true hn) (zk 7 U (WP.ret ⟨aa,_,U,by rw[jJ,ay hn],s⟩))
  .skip;refine zC U (Yj KT Tryz.underlying5 X9 hq hz) (decide_eq_false hn) (zk 7 U (zc U (uF hT s hX iL) ?_));rintro r h' ⟨s,(⟨hg,rfl⟩|⟨hg,rfl⟩)⟩
   .refine au.op U U U (b7 U) ?_;refine zk 2 U ?_;refine au.cj s U U U (cm jD) (λp3 h s => ?_);dsimp only[V.cells,List.length_cons,List.length_nil,Nat.reduceAdd] at s;refine zS U (s.gZ (j:=0) U aV U U) (λh s => ?_);dsimp only[setA] at s;refine zk 3 U (WP.block (zK 3 U (zC U aG (U) (zk 4 U ?_))));have s0:=s;refine WP.drawn [none,none,some (0,2),some (0,2),af,af,af,af] U (by kernel_rfl) (by kernel_rfl) ?_;refine zL U (s.b9 (k:=0) U bC aV) (aB.any U U U U (OpR.call U U U U (wK hT s (k:=1) U hX (by decide) (by decide) (by decide) (by omega) (by omega))) ?_);rintro r h' ⟨rfl,s⟩;have s1:=s;refine zM U (zO U (bK (p:=some (.int .i64 4)) (q:=none) (m:=none) (p':=some 4) (q':=none) (m':=none) U U U U U U U (iu (s.aC (k:=1) U hX) (a:=4) (by omega)).1) ?_);refine aB.any U U U U (OpR.call U U U U (Yh hT s (k:=1) U (Oj hX (a:=4) (by omega)) (by simp;omega))) ?_;rintro r h' ⟨rfl,rfl⟩;have hc:=EB (s:=0) (l:=l.drop 4) (by decide) (λx hx=>hv.1 x (i_ hx));have hs:∃q c,slR (V.sl pi po l.length pc) 4 l.length=.sl pi q (l.length-4) c:=by
     cases pc with
     |exact c=>exact⟨_,_,U⟩
     |rest e alt=>exact⟨_,_,U⟩
    obtain⟨q,c,hs⟩:=hs;have K6:(slR (V.sl pi po l.length pc) 4 l.length).beq (slR (V.sl pi po l.length pc) 4 l.length)=true:=by rw[hs];exact Ap _ _ _ _
    refine aB.op U U U (by simp only[isEff,b_]) (cS U (by exact kU Tryz.underlying260 b_ ak)) ?_;by_cases I:dQ l 0 4=Gb 0 (l.drop 4)
    .skip;refine aB.rW U U U U (aq U U aG) (by simp;exact_mod_cast I) ?_;refine zA U ?_;refine aB.nil ⟨⟨aa,aa,λ_ _=>.inr ⟨U,⟨_,b7 U⟩,bx _ U⟩,gF (.inr ⟨U,⟨_,bK (p:=some (.int .i64 4)) (q:=none) (m:=none) (p':=some 4) (q':=none) (m':=none) U U U U U U U (iu (s0.aC (k:=1) U hX) (a:=4) (by omega)).1⟩,K6⟩) (.inr ⟨U,⟨_,bK (p:=some (.int .i64 4)) (q:=none) (m:=none) (p':=some 4) (q':=none) (m':=none) U U U U U U U (iu (s1.aC (k:=1) U hX) (a:=4) (by omega)).1⟩,K6⟩),yr 5⟩,?_⟩;refine zj U (WP.skip (zg U (za U (zv ?_))));refine WP.ret ⟨aa,_,U,?_⟩;exact⟨by rw[jJ,ai hn,ai (by rw[hg];decide),ai (by simpa using I)],s.drop⟩
    .skip;refine aB.xx U U U U (aq U U aG) (by simp;exact_mod_cast I) ?_;refine zA U ?_;refine aB.nil ⟨⟨aa,aa,λ_ _=>.inr ⟨U,⟨_,b7 U⟩,bx _ U⟩,gF (.inr ⟨U,⟨_,bK (p:=some (.int .i64 4)) (q:=none) (m:=none) (p':=some 4) (q':=none) (m':=none) U U U U U U U (iu (s0.aC (k:=1) U hX) (a:=4) (by omega)).1⟩,K6⟩) (.inr ⟨U,⟨_,bK (p:=some (.int .i64 4)) (q:=none) (m:=none) (p':=some 4) (q':=none) (m':=none) U U U U U U U (iu (s1.aC (k:=1) U hX) (a:=4) (by omega)).1⟩,K6⟩),yr 5⟩,?_⟩;exact zK 5 U (WP.ret ⟨aa,_,U,by rw[jJ,ai hn,ai (by rw[hg];decide),ay I],s.drop⟩)
   .skip;refine zk 3 U ?_;refine au.cj s U U U (cm jD) (λp3 h s => ?_);refine zS U (s.gZ (j:=0) U aV U U) (λh s => ?_);exact zk 3 U (WP.block (zK 3 U (zB U aG (U) (zk 8 U (WP.ret ⟨aa,_,U,by rw[jJ,ai hn,ay hg],s.drop⟩)))))
 .intro hq;have hq:l.length≠512:=by simp at hq;omega
  have hn:l≠List.replicate 512 0:=λe=>hq (by rw[e,hz]);have hg:cI l=false:=by rw[cI,f_ hq,mK]
  refine zk 13 U (zc U (uF hT s hX iL) ?_);rintro r h' ⟨s,(⟨FZ,rfl⟩|⟨_,rfl⟩)⟩
  .rw[hg] at FZ;cases FZ
  .refine au.op U U U (b7 U) ?_;refine zk 2 U ?_;refine au.cj s U U U (cm jD) (λp3 h s => ?_);refine zS U (s.gZ (j:=0) U aV U U) (λh s => ?_);exact zk 3 U (WP.block (zK 3 U (zB U aG (U) (zk 8 U (WP.ret ⟨aa,_,U,by rw[jJ,ai hn,ay hg],s.drop⟩)))))
theorem uG {b:Nat}(hv:View h v l)(hb:l[i]?=some b)(he:indexAddrV Tryz.prog 29 v (.int .i64 (i:Int))=some (.ptr id off)): loadV Tryz.prog h 5 (.ptr id off)=some (.int .u8 (b:Int)):=by
 obtain⟨I,off',e1,e2⟩:=eU hv hb;rw[he] at e1;have e3:V.ptr id off=V.ptr I off':=bD e1;rw[e3];exact e2
theorem H6 (hT:W told)(s:Sat h (X::S))(I:cC X (cK v l))(iL:l.length<9223372036854775808):
  Call ⟨Tryz.prog,told⟩ 159 [v] h λr h'=>Sat h' (X::S)/\((cI l=true/\r=.aX [.int .i64 (l.getD 12 0:Nat),.int .u64 (dQ l 4 8),.int .i64 (dQ l 18 4),.int .i64 (dQ l 22 4),.int .i64 0]) \/
   (cI l=false/\r=.aX [.int .i64 0,.int .u64 0,.int .i64 0,.int .i64 0,.int .i64 4])):=by
 have hv:=s.aC (k:=0) U I;refine Call.of_wp (hT.free _ U) Tryz.func159 U U (zK 11 U (zc U (uF hT s I iL) ?_));rintro r h' ⟨s,(⟨hg,rfl⟩|⟨hg,rfl⟩)⟩
 .have hq:=jy hg;obtain⟨pi,po,pc,rfl⟩:=iB hv;have hb:l[12]?=some (l[12]'(by omega)):=aF _;generalize R8:(l[12]'(by omega))=b at hb;have ob:b<256:=hv.1 b (aJ hb);have qQ:l.getD 12 0=b:=by rw[tu,hb];rfl
  rw[qQ];refine zk 3 U ?_;refine au.cj s U U U (cm jD) (λp7 h s => ?_);refine zS U (s.gZ (j:=0) U aV U U) (λh s => ?_);refine zk 6 U (zC U aG (U) (zk 4 U ?_));have s0:=s;obtain⟨id,off,e1,e2⟩:=eU (s.aC (k:=1) U I) hb;refine WP.drawn [some (0,4),some (0,4),some (0,4),some (0,4),af,af,af,some (0,2),none,some (0,3),af,af,af,af,af,af] U (by kernel_rfl) (by kernel_rfl) ?_;refine zM U (zO U (bM (r:=.ptr id off) U U e1) (zL U (uG (s.aC (k:=1) U I) hb e1) (aB.op U U U (by simp only[isEff,b_]) (cS U (by exact kU Tryz.underlying5 b_ ak)) ?_)));refine zM U (zO U (bK (p:=some (.int .i64 4)) (q:=some (.int .i64 12)) (m:=none) (p':=some 4) (q':=some 12) (m':=none) U U U U U U U (fR (s.aC (k:=1) U I) (a:=4) (b:=12) (by omega) (by omega)).1) ?_);refine aB.any U U U U (OpR.call U U U U (HZ hT s (k:=1) U (Ey I (a:=4) (b:=12) (by omega) (by omega)) (by simp;omega))) ?_;rintro r h' ⟨rfl,rfl⟩;have s1:=s;refine zL U (s.b9 (k:=0) U bC aV) (aB.any U U U U (OpR.call U U U U (wK hT s (k:=1) U I (by decide) (by decide) (by decide) (by omega) (by omega))) ?_);rintro r h' ⟨rfl,s⟩;have s2:=s;refine zL U (s.b9 (k:=0) U bC aV) (aB.any U U U U (OpR.call U U U U (wK hT s (k:=1) U I (by decide) (by decide) (by decide) (by omega) (by omega))) ?_);rintro r h' ⟨rfl,s⟩;refine zA U (zA U (zA U (zA U (zA U ?_))));refine aB.nil ⟨⟨λ_ _=>.inr ⟨U,⟨_,b7 U⟩,bx _ U⟩,λ_ _=>.inr ⟨U,⟨_,bM (r:=.ptr id off) U U e1⟩,bx _ U⟩,BR (.inr ⟨U,⟨_,o_load U (uG (s0.aC (k:=1) U I) hb e1)⟩,bx _ U⟩) (.inr ⟨U,⟨_,o_load U (uG (s1.aC (k:=1) U I) hb e1)⟩,bx _ U⟩) (.inr ⟨U,⟨_,o_load U (uG (s2.aC (k:=1) U I) hb e1)⟩,bx _ U⟩) (.inr ⟨U,⟨_,o_load U (uG (s.aC (k:=1) U I) hb e1)⟩,bx _ U⟩),λ_ _=>.inr ⟨U,⟨_,cS U (by exact kU Tryz.underlying5 b_ ak)⟩,bx _ U⟩,aa,aa,aa,gF (.inr ⟨U,⟨_,o_load U (s0.b9 (k:=0) U bC aV)⟩,bx _ U⟩) (.inr ⟨U,⟨_,o_load U (s1.b9 (k:=0) U bC aV)⟩,bx _ U⟩),aa,BN (.inr ⟨U,⟨_,o_load U (s0.b9 (k:=0) U bC aV)⟩,bx _ U⟩) (.inr ⟨U,⟨_,o_load U (s1.b9 (k:=0) U bC aV)⟩,bx _ U⟩) (.inr ⟨U,⟨_,o_load U (s2.b9 (k:=0) U bC aV)⟩,bx _ U⟩),yr 7⟩,?_⟩;refine WP.ret ⟨aa,_,U,?_⟩;exact⟨s.drop,.inl ⟨hg,U⟩⟩
 .skip;refine zk 3 U ?_;refine au.cj s U U U (cm jD) (λp7 h s => ?_);refine zS U (s.gZ (j:=0) U aV U U) (λh s => ?_);exact zk 6 U (zB U aG (U) (zk 11 U (WP.ret ⟨aa,_,U,s.drop,.inr ⟨hg,U⟩⟩)))
end
structure Lg where
 base:Nat
 b:List Nat
 dR:List Nat
 forced:Nat
 check:Nat
variable {μ:Lg}
def cJ (l:List Nat): List V:=l.map λ(n:Nat)=>V.int .i64 (n:Int)
theorem jz (l:List Nat): (cJ l).length=l.length:=by simp[cJ]
def lgC (p base:Nat)(bv I:V)(forced check:Nat): List V:=[.ptr p 0,.int .u64 (base:Int),bv,I,.int .i64 (forced:Int),.int .u64 (check:Int)]
def dH (q p:Nat)(μ:Lg): aE:=xs λbv:V=>xs λI:V=>star [pt q (.cells 6 (lgC p μ.base bv I μ.forced μ.check) false),bf bv μ.b,.arr 1 I (cJ μ.dR)]
structure Lg.Ok (μ:Lg): Prop where
 size:μ.base+μ.b.length<=1099511627776
 many:μ.dR.length<=16777216
 low:∀s∈μ.dR,s<μ.b.length
 H7:μ.dR.Pairwise (· < ·)
 forced:μ.forced<=μ.b.length
 len:μ.b.length<=16777216
 check:μ.check<=1099511627776
theorem adA {x:Operand}{b:Nat}(I:a+b<4611686018427387904): binV P h .quo t x y (.int .i64 ((a:Int)+(b:Int))) (.int .i64 2)=some (.int .i64 (((a+b)/2:Nat):Int)):=by
 simp only[binV,ikBeq,ag,intV];rw[show intBeq 2 0=false from U,aT,Int.tdiv_eq_ediv_of_nonneg (by omega),ak];congr 2
section
variable {told:cu} {p:Nat} {v:V}
theorem jr : Sat h (dH q p μ::S)↔∃bv I,Sat h (pt q (.cells 6 (lgC p μ.base bv I μ.forced μ.check) false)::bf bv μ.b::.arr 1 I (cJ μ.dR)::S):=by
 simp only[dH,jv,cY,fJ,dL]
theorem kX {c:V}(s:Sat h S)(hk:getA S k=some (.arr 1 v cs))(hi:cs[i]?=some c)(hu:P.underlying t=some (.slice e))(I:bq P e=some 1):
  ∃id off,indexAddrV P t v (.int .i64 (i:Int))=some (.ptr id off)/\∀t',isAggT P t'=some false->loadV P h t' (.ptr id off)=some c:=by
 have xw:i<cs.length:=(List.getElem?_eq_some_iff.1 hi).1;obtain⟨m,r,h1,h2,h3⟩:=s.at hk;rcases h3.2 with⟨_,rfl⟩|⟨id,n,cap,N,rest,rfl,hg,e1,e2,_⟩
 .simp at hi
 .refine⟨id,i,?_,λt' ht=>BM ht (h1 _ _ hg) ?_⟩
  .simp only[indexAddrV,hu,I,fI];rw[show(decide ((0:Int)<=(i:Int))&&decide ((i:Int)<(n:Int)))=true by simp;omega,ag];simp
  .rw[gE,rE xw,hi]
theorem SX (I:W told)(s:Sat h (dH q p μ::S)): Call ⟨Tryz.prog,told⟩ 106 [.ptr q 0] h λv h'=>v=.int .u64 (μ.base:Int)/\h'=h:=by
 obtain⟨bv,sv,s⟩:=jr.1 s;exact Call.of_wp (I.free _ U) Tryz.func106 U U (zK 8 U (zY s 0 y7 sI U (zk 2 U (WP.ret ⟨aa,_,U,U,U⟩))))
theorem Nd (I:W told)(s:Sat h (dH q p μ::S)): Call ⟨Tryz.prog,told⟩ 107 [.ptr q 0] h λv h'=>v=.int .u64 (μ.check:Int)/\h'=h:=by
 obtain⟨bv,sv,s⟩:=jr.1 s;exact Call.of_wp (I.free _ U) Tryz.func107 U U (zK 8 U (zY s 0 Zy sI U (zk 2 U (WP.ret ⟨aa,_,U,U,U⟩))))
theorem H8 (I:W told)(s:Sat h (dH q p μ::S))(hb:μ.base+μ.b.length<=1099511627776): Call ⟨Tryz.prog,told⟩ 39 [.ptr q 0] h λv h'=>v=.int .u64 ((μ.base:Int)+(μ.b.length:Int))/\h'=h:=by
 obtain⟨bv,sv,s⟩:=jr.1 s
 refine Call.of_wp (I.free _ U) Tryz.func39 U U (zK 5 U (WP.drawn [af,af,af,af,af,af,af,af,af,af,af,af] U (by kernel_rfl) (by kernel_rfl) ?_))
 refine zM U (zN U (zF U (y7 _ _) (zL U (s.ld (k:=0) U sI U) (zM U (zN U (zF U (nU _ _) (zL U (s.ld (k:=0) U bS U) (zO U (aD U U U (bw aP (s.aC (k:=1) U (bh _ _)))) (aB.op U U U (by simp only[isEff,eZ]) (cS U (by exact kU b_ eZ iO)) ?_)))))))))
 refine zO U (aq U U (by exact aL iO)) ?_
 refine zA U ?_
 refine aB.nil ⟨⟨aa,aa,aa,aa,aa,aa,aa,aa,aa,aa,aa,aa,aa⟩,?_⟩
 refine WP.ret ⟨aa,_,U,?_⟩
 exact⟨U,U⟩
theorem Qs (I:W told)(s:Sat h (dH q p μ::S))(hb:μ.base+μ.b.length<=1099511627776)(hf:μ.forced<=μ.b.length): Call ⟨Tryz.prog,told⟩ 174 [.ptr q 0] h λv h'=>v=.int .u64 ((μ.base:Int)+(μ.forced:Int))/\h'=h:=by
 obtain⟨bv,sv,s⟩:=jr.1 s
 refine Call.of_wp (I.free _ U) Tryz.func174 U U (zK 5 U (WP.drawn [af,af,af,af,af,af,af,af,af,af,af] U (by kernel_rfl) (by kernel_rfl) ?_))
 refine zM U (zN U (zF U (y7 _ _) (zL U (s.ld (k:=0) U sI U) (zM U (zN U (zF U (HQ _ _) (zL U (s.ld (k:=0) U bP U) (aB.op U U U (by simp only[isEff,eZ]) (cS U (by exact kU b_ eZ iO)) ?_))))))))
 refine zO U (aq U U (by exact aL iO)) ?_
 refine zA U ?_
 refine aB.nil ⟨⟨aa,aa,aa,aa,aa,aa,aa,aa,aa,aa,aa,aa⟩,?_⟩
 refine WP.ret ⟨aa,_,U,?_⟩
 exact⟨U,U⟩
def Split (μ:Lg)(n i:Nat): Prop:=i<=μ.dR.length/\(∀(j s:Nat),j<i->μ.dR[j]?=some s->μ.base+s<n)/\(∀(j s:Nat),i<=j->μ.dR[j]?=some s->n<=μ.base+s)
theorem H9 (hr:l.Pairwise (· < ·)){b:Nat}(I:i<j)(ha:l[i]?=some a)(hb:l[j]?=some b): a<b:=by
 obtain⟨h1,rfl⟩:=List.getElem?_eq_some_iff.1 ha;obtain⟨h2,rfl⟩:=List.getElem?_eq_some_iff.1 hb;exact List.pairwise_iff_getElem.1 hr _ _ h1 h2 I
noncomputable def lfL : Code:=dm [1,1,0,0,0] ((Tryz.f207.body).getD .skip)
theorem SY {sv:V}(hn:n<18446744073709551616)(I:μ.Ok)(s:Sat h (pt q (.cells 6 (lgC p μ.base bv sv μ.forced μ.check) false)::bf bv μ.b::.arr 1 sv (cJ μ.dR)::S)): ∀(fuel lo hi:Nat) (E:List (Nat×V)) (Q:Ex->List (Nat×V)->H->Prop),hi-lo<=fuel->lo<=hi->hi<=μ.dR.length ->
  (∀(j s:Nat),j<lo->μ.dR[j]?=some s->μ.base+s<n)->(∀(j s:Nat),hi<=j->μ.dR[j]?=some s->n<=μ.base+s) ->
  Has E [(0,.ptr q 0),(1,.int .u64 (n:Int)),(5,.int .i64 (lo:Int)),(6,.int .i64 (hi:Int))]->(∀E' i,Split μ n i->look E' 5=some (.int .i64 (i:Int))->Q (.exit 0) E' h)->WP ⟨Tryz.prog,told⟩ 39 (.loop lfL) E h Q:=by
 have Yk:=I.many
 have Qt:=I.size
 intro fuel
 induction fuel with
 |zero =>
  intro lo hi E Q hf h1 h2 h3 h4 hE hq
  refine WP.loop (WP.has hE (zK 5 U (zC U aK (by simp;omega) ?_)))
  refine zk 2 U (WP.exit ?_)
  have e:lo=hi:=by omega
  exact hq _ lo ⟨by omega,h3,by rw[e];exact h4⟩ U
 |succ fuel ih =>
  intro lo hi E Q hf h1 h2 h3 h4 hE hq
  by_cases cq:lo<hi
  .skip
   refine WP.loop (WP.has hE (zK 5 U (zB U aK (by simp;omega) ?_)))
   refine zk 3 U (WP.block (zK 4 U (zb U (by exact aL ak) ?_)))
   refine zb U (adA (by omega)) ?_
   refine zk 3 U ?_
   generalize hm:(lo+hi)/2=m
   have mB:lo<=m:=by omega
   have qG:m<hi:=by omega
   obtain⟨st,eG⟩:∃st,μ.dR[m]?=some st:=⟨_,aF (by omega)⟩
   have sL:=I.low st (aJ eG)
   have hlen:=I.len
   have hc:(cJ μ.dR)[m]?=some (.int .i64 (st:Int)):=by simp[cJ,eG]
   obtain⟨id,off,e1,e2⟩:=kX (P:=Tryz.prog) s (k:=2) U hc dF lQ
   refine WP.drawn [af,af,af,af,af,af,af,af,af,af,af,af,af,af,af] U (by kernel_rfl) (by kernel_rfl) ?_
   refine zM U (zN U (zF U (y7 _ _) (zL U (s.ld (k:=0) U sI U) (zM U (zN U (zF U (tM _ _) (zL U (s.ld (k:=0) U Ev U) (zM U (zO U (bM (r:=.ptr id off) U U e1) (zL U (e2 _ bP) (aB.op U U U (by simp only[isEff,eZ]) (cS U (by exact kU b_ eZ iO)) ?_)))))))))))
   refine zO U (aq U U (by exact aL iO)) ?_
   refine zM U ?_
   by_cases yQ:μ.base+st<n
   .skip
    refine aB.xx U U U U (aq U U aK) (by simp;omega) ?_
    refine aB.nil ⟨⟨aa,aa,aa,aa,aa,aa,aa,aa,aa,aa,aa,aa,aa,aa,aa,aa⟩,?_⟩
    refine zK 3 U (zb U (by exact aL ak) ?_)
    refine za U (zv ?_)
    refine ih (m+1) hi _ Q (by omega) (by omega) h2 (λj s hj hs => ?_) h4 ⟨U,U,U,U,aa⟩ hq
    by_cases hjm:j=m
    .subst hjm;rw[eG] at hs;injection hs with hs;omega
    .have:=H9 I.H7 (show j<m by omega) hs eG;omega
   .skip
    refine aB.rW U U U U (aq U U aK) (by simp;omega) ?_
    refine aB.nil ⟨⟨aa,aa,aa,aa,aa,aa,aa,aa,aa,aa,aa,aa,aa,aa,aa,aa⟩,?_⟩
    refine zj U (zr U (zk 2 U (zv ?_)))
    refine ih lo m _ Q (by omega) mB (by omega) h3 (λj s hj hs => ?_) ⟨U,U,U,U,aa⟩ hq
    by_cases hjm:j=m
    .subst hjm;rw[eG] at hs;injection hs with hs;omega
    .have:=H9 I.H7 (show m<j by omega) eG hs;omega
  .skip
   refine WP.loop (WP.has hE (zK 5 U (zC U aK (by simp;omega) ?_)))
   refine zk 2 U (WP.exit ?_)
   have e:lo=hi:=by omega
   exact hq _ lo ⟨by omega,h3,by rw[e];exact h4⟩ U
theorem ZP (hT:W told)(s:Sat h (dH q p μ::S))(I:μ.Ok)(hn:n<18446744073709551616): Call ⟨Tryz.prog,told⟩ 207 [.ptr q 0,.int .u64 (n:Int)] h λv h'=>h'=h/\∃i,Split μ n i/\v=.int .i64 (i:Int):=by
 obtain⟨bv,sv,s⟩:=jr.1 s
 refine Call.of_wp (hT.free _ U) Tryz.func207 U U (zK 5 U (WP.drawn [af,af,af,af,af,af,af] U (by kernel_rfl) (by kernel_rfl) ?_))
 refine zM U (zN U (zF U (tM _ _) (zL U (s.ld (k:=0) U Ev U) (zO U (aD U U U (s.fS (n:=μ.dR.length) (j:=2) U (by rw[jz,cH]) (by decide) dF)) ?_))))
 refine zA U (zA U ?_)
 refine aB.nil ⟨⟨aa,aa,aa,aa,aa,aa,aa,aa⟩,?_⟩
 refine zw (WP.block ?_)
 refine SY hn I s μ.dR.length 0 μ.dR.length _ _ (by omega) (by omega) (by omega) (λj s hj _=>by omega) (λj s hj hs => ?_) ⟨U,U,U,U,aa⟩ (λE' i hi dY => ?_)
 .rw[rF (by omega)] at hs;cases hs
 .skip
  exact WP.has (F:=[(5,.int .i64 (i:Int))]) ⟨dY,aa⟩ (zK 5 U (WP.ret ⟨aa,_,U,U,i,hi,U⟩))
def Lg.hasB (μ:Lg)(n:Nat): Bool:=μ.dR.any λs=>decide (μ.base+s=n)
theorem Split.has (hs:Split μ n i)(hr:μ.dR.Pairwise (· < ·)): μ.hasB n=true↔∃s,μ.dR[i]?=some s/\μ.base+s=n:=by
 rw[Lg.hasB,List.any_eq_true];constructor
 .rintro⟨s,h1,I⟩;have I:μ.base+s=n:=by simpa using I
  obtain⟨j,hj⟩:=CY h1;have pH:i<=j:=by
   rcases tI j i with h|h
   .have:=hs.2.1 j s h hj;omega
   .exact h
  by_cases he:i=j
  .subst he;exact⟨s,hj,I⟩
  .have I4:=(List.getElem?_eq_some_iff.1 hj).1;have hi:μ.dR[i]?=some (μ.dR[i]'(by omega)):=aF _;have h3:=hs.2.2 i _ (aH _) hi;have h4:=H9 hr (show i<j by omega) hi hj;omega
 .rintro⟨s,h1,I⟩;exact⟨s,aJ h1,by simpa using I⟩
theorem SZ {st:Nat}(I:μ.dR[i]?=some st): (cJ μ.dR)[i]?=some (.int .i64 (st:Int)):=by simp[cJ,I]
theorem ZQ (hT:W told)(s:Sat h (dH q p μ::S))(I:μ.Ok)(hn:n<18446744073709551616): Call ⟨Tryz.prog,told⟩ 181 [.ptr q 0,.int .u64 (n:Int)] h λv h'=>h'=h/\v=.bool (μ.hasB n):=by
 have s0:=s
 obtain⟨bv,sv,s⟩:=jr.1 s
 have Yk:=I.many
 have Qt:=I.size
 refine Call.of_wp (hT.free _ U) Tryz.func181 U U (zK 8 U (zc U (ZP hT s0 I hn) ?_))
 rintro v h' ⟨rfl,i,hi,rfl⟩
 have hh:=hi.has I.H7
 refine zk 3 U (WP.drawn [af,af,af,af,af,af,af,af,af,af,af,af,af,af,af,af,af,af,af,af,af,af,af,af,af] U (by kernel_rfl) (by kernel_rfl) ?_)
 refine zM U (zM U (zN U (zF U (tM _ _) (zL U (s.ld (k:=0) U Ev U) (zO U (aD U U U (s.fS (n:=μ.dR.length) (j:=2) U (by rw[jz,cH]) (by decide) dF)) ?_)))))
 by_cases xw:i<μ.dR.length
 .skip
  refine aB.xx U U U U (aq U U aK) (by simp;omega) ?_
  obtain⟨st,eG⟩:∃st,μ.dR[i]?=some st:=⟨_,aF xw⟩
  have sL:=I.low st (aJ eG)
  obtain⟨id,off,e1,e2⟩:=kX (P:=Tryz.prog) s (k:=2) U (SZ eG) dF lQ
  refine zM U (zM U (zN U (zF U (y7 _ _) (zL U (s.ld (k:=0) U sI U) (zM U (zN U (zF U (tM _ _) (zL U (s.ld (k:=0) U Ev U) (zM U (zO U (bM (r:=.ptr id off) U U e1) (zL U (e2 _ bP) (aB.op U U U (by simp only[isEff,eZ]) (cS U (by exact kU b_ eZ iO)) ?_))))))))))))
  refine zO U (aq U U (by exact aL iO)) ?_
  refine zM U ?_
  by_cases he:μ.base+st=n
  .skip
   refine aB.xx U U U U (aq U U dK) (by simp;omega) ?_
   refine zO U (oT U U) (zA U ?_)
   refine aB.nil ⟨⟨aa,aa,aa,aa,aa,aa,aa,aa,aa,aa,aa,aa,aa,aa,aa,aa,aa,aa,aa,aa,aa,aa,aa,aa,aa,aa⟩,?_⟩
   refine WP.ret ⟨aa,_,U,?_⟩
   exact⟨U,by rw[hh.2 ⟨st,eG,he⟩]⟩
  .skip
   refine aB.rW U U U U (aq U U dK) (by simp;omega) ?_
   refine zO U (oT U U) (zA U ?_)
   refine aB.nil ⟨⟨aa,aa,aa,aa,aa,aa,aa,aa,aa,aa,aa,aa,aa,aa,aa,aa,aa,aa,aa,aa,aa,aa,aa,aa,aa,aa⟩,?_⟩
   refine WP.ret ⟨aa,_,U,?_⟩
   refine⟨U,?_⟩
   cases hb:μ.hasB n with
   |false=>rfl
   |true =>
    obtain⟨s',h1,h2⟩:=hh.1 hb
    rw[eG] at h1;have:=bD h1;omega
 .skip
  refine aB.rW U U U U (aq U U aK) (by simp;omega) ?_
  refine zM U (aB.no (e:=false) U U U U (aB.no (e:=false) U U U U (aB.no (e:=false) U U U U (aB.no (e:=false) U U U U (aB.no (e:=false) U U U U (aB.no (e:=false) U U U U (aB.no (e:=false) U U U U (aB.no (e:=false) U U U U (aB.no (e:=false) U U U U (aB.no (e:=false) U U U U (aB.no (e:=false) U U U U (aB.no (e:=false) U U U (by simp only[isEff,eZ]) ?_))))))))))))
  refine aB.no (e:=false) U U U U (aB.no (e:=false) U U U U (aB.no (e:=false) U U U U (zO U (rU U U) (zA U ?_))))
  refine aB.nil ⟨⟨aa,aa,aa,aa,aa,aa,aa,aa,aa,aa,aa,aa,aa,aa,aa,aa,aa,aa,aa,aa,aa,aa,aa,aa,aa,aa⟩,?_⟩
  refine WP.ret ⟨aa,_,U,?_⟩
  refine⟨U,?_⟩
  cases hb:μ.hasB n with
  |false=>rfl
  |true =>
   obtain⟨s',h1,h2⟩:=hh.1 hb
   have:=(List.getElem?_eq_some_iff.1 h1).1
   omega
theorem S1 (hT:W told)(s:Sat h (dH q p μ::bZ p δ::S))(I:μ.Ok)(hf:δ.cV<4294967296): Call ⟨Tryz.prog,told⟩ 103 [.ptr q 0,.int .u64 (n:Int)] h λv h' =>
  (n<μ.base+μ.forced/\v=.int .i64 0/\Sat h' (dH q p μ::bZ p δ::S)) \/
  (μ.base+μ.forced<=n/\δ.dead=true/\v=.int .i64 9/\Sat h' (dH q p μ::bZ p δ::S)) \/
  (μ.base+μ.forced<=n/\δ.dead=false/\δ.cV=0/\v=.int .i64 9/\Sat h' (dH q p μ::bZ p δ.die::S)) \/
  (μ.base+μ.forced<=n/\δ.dead=false/\δ.cV≠0/\v=.int .i64 0/\Sat h' (dH q p { μ with forced:=μ.b.length }::bZ p { δ.gu with gS:=δ.log.length }::S)):=by
 have Qt:=I.size;have hfo:=I.forced;have s0:=s;obtain⟨bv,sv,s⟩:=jr.1 s;refine Call.of_wp (hT.free _ U) Tryz.func103 U U (zK 9 U (zc U (Qs hT s0 I.size I.forced) ?_));rintro v h' ⟨rfl,rfl⟩;by_cases cq:n<μ.base+μ.forced
 .skip;refine zB U aK (by simp;omega) ?_;exact zk 6 U (WP.ret ⟨aa,_,U,.inl ⟨cq,U,s0⟩⟩)
 .have hle:μ.base+μ.forced<=n:=by omega
  refine zC U aK (by simp;omega) ?_;refine zk 8 U (zY s 0 Oc yg U (zc U (SQ hT (s0.ae [1]) hf) ?_));rintro v h (⟨hd,rfl,s⟩|⟨hd,h0,rfl,s⟩|⟨hd,h0,rfl,s⟩)
  .refine au.op U U U (iV U) ?_;exact zk 4 U (zB U aG (U) (zk 7 U (WP.ret ⟨aa,_,U,.inr (.inl ⟨hle,hd,U,s.ae [1]⟩)⟩)))
  .skip;exact zk 5 U (zB U aG (U) (zk 7 U (WP.ret ⟨aa,_,U,.inr (.inr (.inl ⟨hle,hd,h0,U,s.ae [1]⟩))⟩)))
  .skip;obtain⟨bv,sv,s⟩:=jr.1 (s.ae [1]);refine zk 5 U (zC U aG (U) (zk 8 U (zY s 0 nU bS U (zo U (aD U U U (bw aP (s.aC (k:=1) U (bh _ _)))) (zn U (zf U (HQ _ _) ?_))))));refine zS U (by exact s.kC (k:=0) U lQ U (by decide) U U) (λh s => ?_);exact zk 5 U (WP.ret ⟨aa,_,U,.inr (.inr (.inr ⟨hle,hd,h0,U,jr.2 ⟨bv,sv,s⟩⟩))⟩)
end
structure fT where
 bT:Int
 pos:Int
 whole:Bool
 b:List Nat
variable {dG:List fT}
def fT.Ok (c:fT): Prop:=0<=c.bT/\c.bT<65536/\0<=c.pos/\c.pos<=512/\(c.b.length:Int)<=512-c.pos/\(c.whole=true->c.pos=0/\c.b.length=512)
instance (c:fT):Decidable c.Ok:=by unfold fT.Ok;infer_instance
def iD (kind:Int)(dG:List fT): Bool:=decide (1<=kind/\kind<=9)&&dG.all λc=>decide c.Ok
def qv (kd:Int)(tx pv nx:Nat)(dt ch:V): List V:=[.int .i64 kd,.int .u64 (tx:Int),.int .u64 (pv:Int),.int .u64 (nx:Int),dt,ch]
theorem B7 {ch:V}(I:storable dt=true)(hc:storable ch=true): (qv kd tx pv nx dt ch).all storable=true:=by
 simp only[qv,l_,mL,I,hc];rfl
def fP : List V->List fT->aE
 |[],[]=>.pu True
 |p::a::w::v::l,x::m=>.an (.an (.pu (p=.int .i64 x.bT/\a=.int .i64 x.pos/\w=.bool x.whole)) (.b8 v x.b)) (fP l m)
 |_,_=>.pu False
theorem aI.sQ : ∀(m:List fT) (l:List V),aI (fP l m):=by
 intro m;induction m with
 |nil=>intro l;rcases l with _|⟨a,_|⟨b,_|⟨c,_|⟨d,l⟩⟩⟩⟩<;>exact aI.pu _
 |cons x m I=>intro l;rcases l with _|⟨a,_|⟨b,_|⟨c,_|⟨d,l⟩⟩⟩⟩<;>first|exact aI.pu _|exact aI.an (aI.an (aI.pu _) (aI.b8 _ _)) (I l)
theorem tT {a b:PM}: ∀ {m:List fT} {l:List V},(fP l m).p a b->l.length=m.length*4:=by
 intro m;induction m with
 |nil=>intro l h;rcases l with _|⟨x,_|⟨y,_|⟨z,_|⟨d,l⟩⟩⟩⟩<;>first|rfl|exact h.elim
 |cons x m I =>
  intro l h;rcases l with _|⟨x,_|⟨y,_|⟨z,_|⟨d,l⟩⟩⟩⟩<;>first|exact h.elim|skip
  have:=I h.2;simp only[aW];omega
theorem EE {a b:PM}: ∀ {m m':List fT} {l I:List V},(fP l m).p a b->(fP I m').p a b->(fP (l++I) (m++m')).p a b:=by
 intro m;induction m with
 |nil=>intro m' l I h h';rcases l with _|⟨x,_|⟨y,_|⟨z,_|⟨d,l⟩⟩⟩⟩<;>first|exact h'|exact h.elim
 |cons x m ih =>
  intro m' l I h h';rcases l with _|⟨x,_|⟨y,_|⟨z,_|⟨d,l⟩⟩⟩⟩<;>first|exact h.elim|exact⟨h.1,ih h.2 h'⟩
theorem K8 {a b:PM}: ∀ {m:List fT} {l:List V} {i:Nat} {c:fT},(fP l m).p a b->m[i]?=some c->∃u,(l.drop (i*4)).take 4=[.int .i64 c.bT,.int .i64 c.pos,.bool c.whole,u]/\(aE.b8 u c.b).p a b:=by
 intro m;induction m with
 |nil=>intro l i c h I;simp at I
 |cons x m ih =>
  intro l i c h I;rcases l with _|⟨p,_|⟨q,_|⟨w,_|⟨v,l⟩⟩⟩⟩<;>first|exact h.elim|skip
  obtain⟨⟨⟨h1,h2,h3⟩,h4⟩,h5⟩:=h;cases i with
  |zero=>simp at I;subst I;exact⟨v,by rw[h1,h2,h3];rfl,h4⟩
  |succ i =>
   simp at I;obtain⟨u,e1,e2⟩:=ih h5 I;refine⟨u,?_,e2⟩;rw[<-e1,show(i+1)*4=i*4+4 by omega];rfl
section
variable {told:cu} {p:Nat} {v:V}
theorem S2 {ch:V}{m:List fT}{c:fT}(s:Sat h (.arr 4 ch cs::fP cs m::S))(hc:m[i]?=some c):
  ∃id off u,indexAddrV Tryz.prog 45 ch (.int .i64 (i:Int))=some (.ptr id off)/\loadV Tryz.prog h 206 (.ptr id off)=some (.agg [.int .i64 c.bT,.int .i64 c.pos,.bool c.whole,u]) /\
   u.cells=[u]/\storable u=true/\u.beq u=true/\Sat h (.b8 u c.b::.arr 4 ch cs::fP cs m::S):=by
 obtain⟨a,b,q1,q2,q3⟩:=s.at (k:=1) U;have xw:=(List.getElem?_eq_some_iff.1 hc).1;have hl:=tT q3;obtain⟨u,e1,e2⟩:=K8 q3 hc;obtain⟨id,off,g1,g2⟩:=abJ (P:=Tryz.prog) (i:=i) s (j:=0) U (by omega) (by decide) mu DE;have g2:=g2 adg;rw[e1] at g2;have s2:Sat h (fP cs m::.arr 4 ch cs::S):=s.ae [1];have s3:=(s2.dup (aI.sQ _ _)).dM (B:=.b8 u c.b) λa b h=>by
  obtain⟨u',I,sR⟩:=K8 h hc;rw[e1] at I;injection I with _ I;injection I with _ I;injection I with _ I;injection I with I _;subst I;exact sR
 have hu:=(s3.aC (k:=0) U (bp _ _));exact⟨id,off,u,g1,g2,hu.cells.1,hu.cells.2,nR hu,s3.ae [0,1,0]⟩
theorem Ou {ch:V}{m:List fT}(s:Sat h S)(I:getA S j1=some (.arr 4 ch cs))(h2:getA S j2=some (fP cs m))(hu:P.underlying t=some (.slice e)): lenV P h t ch=some (.int .i64 m.length):=by
 obtain⟨a,b,q1,q2,q3⟩:=s.at h2;exact s.fS I (tT q3) (by decide) hu
theorem Sat.B8 {ch:V}{m:List fT}(s:Sat h S)(I:getA S j1=some (.arr 4 ch cs))(h2:getA S j2=some (fP cs m))(hu:P.underlying t=some (.slice e)): lenV P h t ch=some (.int .i64 m.length):=Ou s I h2 hu
noncomputable def gwL : Code:=dm [1,1,0,1,0,0] ((Tryz.f190.body).getD .skip)
theorem Qu {ch:V}{m:List fT}: ∀(j i:Nat) (h:H) (E:List (Nat×V)) (Q:Ex->List (Nat×V)->H->Prop),i+j=m.length->m.length<4294967296->(∀c∈m,c.b.length<9223372036854775808) ->
  (∀c∈m, -4294967296<=c.pos/\c.pos<=4294967296)->Sat h (.arr 4 ch cs::fP cs m::S)->Has E [(1,.ptr p1 0),(14,ch),(15,.int .i64 m.length),(16,.int .i64 i)] ->
  ((m.drop i).all (λc=>decide c.Ok)=false->∀E' h',look E' 2=some (.bool false)->Sat h' (.arr 4 ch cs::fP cs m::S)->Q .ret E' h') ->
  ((m.drop i).all (λc=>decide c.Ok)=true->∀E' h',Sat h' (.arr 4 ch cs::fP cs m::S)->Q (.exit 0) E' h')->WP ⟨Tryz.prog,told⟩ 61 (.loop gwL) E h Q:=by
 intro j;induction j with
 |zero =>
  intro i h E Q hi hm hb VW s hE hr hx;refine WP.loop (WP.has hE (zg U (zC U aK (by simp;omega) ?_)));exact zk 3 U (WP.exit (hx (by rw[qd (by omega)];rfl) _ _ s))
 |succ j ih =>
  intro i h E Q hi hm hb VW s hE hr hx;have hc:m[i]?=some (m[i]'(by omega)):=aF _;generalize (m[i]'(by omega))=c at hc;have B9:=aJ hc;have Ec:=hb c B9;have hcp:=VW c B9;have vB:m.drop i=c::m.drop (i+1):=by
   have:=List.getElem?_eq_some_iff.1 hc;obtain⟨h1,rfl⟩:=this;exact mH h1
  rw[vB,l_] at hr hx;obtain⟨id,off,u,e1,e2,u1,u2,u3,s⟩:=S2 s hc;refine WP.loop (WP.has hE (zg U (zB U aK (by simp;omega) ?_)));refine zk 5 U (WP.block (zg U (zo U (bM (r:=.ptr id off) U U e1) (zl U e2 ?_))));refine au.cj s U U U (cm xy) (λp4 h s => ?_);dsimp only[V.cells,List.length_cons,List.length_nil,Nat.reduceAdd] at s;refine zS U (s.gZ (j:=0) U DE U (by simp only[l_,mL,u2];rfl)) ?_;intro h s;dsimp only[setA] at s;refine zk 4 U (zY s 0 HR bP U ?_);refine zd U (aq U U aK) ?_ ?_
  .intro A0;have A0:c.bT<0:=by simp at A0;omega
   exact zk 30 U (WP.ret (hr (by rw[f_ (λq:c.Ok=>by have:=q.1;omega),mK]) _ _ U s.drop.drop))
  .intro A0;have A0:¬ (c.bT<0):=by simp at A0;omega
   refine zm U (zY s 0 HR bP U ?_);refine zd U (aq U U j6) ?_ ?_
   .intro I5;have I5:65536<=c.bT:=by simp at I5;omega
    exact zk 26 U (WP.ret (hr (by rw[f_ (λq:c.Ok=>by have:=q.2.1;omega),mK]) _ _ U s.drop.drop))
   .intro I5;have I5:¬ (65536<=c.bT):=by simp at I5;omega
    refine zk 2 U (zY s 0 vX bP U ?_);refine zd U (aq U U aK) ?_ ?_
    .intro ju;have ju:c.pos<0:=by simp at ju;omega
     exact zk 21 U (WP.ret (hr (by rw[f_ (λq:c.Ok=>by have:=q.2.2.1;omega),mK]) _ _ U s.drop.drop))
    .intro ju;have ju:¬ (c.pos<0):=by simp at ju;omega
     refine zk 2 U (zY s 0 vX bP U ?_);refine zd U (aq U U cA) ?_ ?_
     .intro qO;have qO:512<c.pos:=by simp at qO;omega
      exact zk 16 U (WP.ret (hr (by rw[f_ (λq:c.Ok=>by have:=q.2.2.2.1;omega),mK]) _ _ U s.drop.drop))
     .intro qO;have qO:¬ (512<c.pos):=by simp at qO;omega
      refine zk 2 U (zY s 0 vY bS U (zo U (aD U U U (bw aP (s.aC (k:=1) U (bp _ _)))) (zY s 0 vX bP U (zb U (by exact dV ak) ?_))));refine zd U (aq U U cA) ?_ ?_
      .intro qP;have qP:512-c.pos<(c.b.length:Int):=by simp at qP;omega
       exact zk 7 U (WP.ret (hr (by rw[f_ (λq:c.Ok=>by have:=q.2.2.2.2.1;omega),mK]) _ _ U s.drop.drop))
      .intro qP;have qP:¬ (512-c.pos<(c.b.length:Int)):=by simp at qP;omega
       refine zk 6 U (zf U (Od _ _) ?_);have w_:∀(h:H) (E:List (Nat×V)),c.Ok->Sat h (.arr 4 ch cs::fP cs m::S)->Has E [(1,.ptr p1 0),(14,ch),(15,.int .i64 m.length),(16,.int .i64 ((i:Int)+1))]->WP ⟨Tryz.prog,told⟩ 61 (.loop gwL) E h Q:=by
        intro h E jX s hE;rw[dZ jX,Db] at hr hx;exact ih (i+1) h E Q (by omega) hm hb VW s hE hr hx
       have Fo:c.whole=false\/c.whole=true:=by cases c.whole<;>simp
       rcases Fo with hw|hw
       .skip;refine zh U (o_load U (by exact s.ld (k:=0) U sH U)) (hw) ?_;refine zk 11 U (zv (zj U (WP.skip (zr U (zb U (by exact aL ak) ?_)))));refine zm U (zv ?_);refine w_ _ _ ?_ ?_ ?_
        .exact⟨by omega,by omega,by omega,by omega,by omega,λe=>by rw[hw] at e;cases e⟩
        .exact s.drop.drop
        .exact⟨U,U,U,U,aa⟩
       .skip;refine zt U (o_load U (s.ld (k:=0) U sH U)) (hw) (zm U (zY s 0 vX bP U ?_));refine zd U (aq U U aG) ?_ ?_
        .intro hp;have hp:c.pos≠0:=by simp at hp;omega
         exact zk 13 U (WP.ret (hr (by rw[f_ (λq:c.Ok=>hp (q.2.2.2.2.2 hw).1),mK]) _ _ U s.drop.drop))
        .intro hp;have hp:c.pos=0:=by simp at hp;omega
         refine zm U (zY s 0 vY bS U (zo U (aD U U U (bw aP (s.aC (k:=1) U (bp _ _)))) ?_));refine zd U (aq U U aG) ?_ ?_
         .intro I;have I:c.b.length≠512:=by simp at I;omega
          exact zk 8 U (WP.ret (hr (by rw[f_ (λq:c.Ok=>I (q.2.2.2.2.2 hw).2),mK]) _ _ U s.drop.drop))
         .intro I;have I:c.b.length=512:=by simp at I;omega
          refine zk 2 U (zv (zj U (WP.skip (zr U (zb U (by exact aL ak) ?_)))));refine zm U (zv ?_);refine w_ _ _ ?_ ?_ ?_
          .exact⟨by omega,by omega,by omega,by omega,by omega,λ_=>⟨hp,I⟩⟩
          .exact s.drop.drop
          .exact⟨U,U,U,U,aa⟩
def Gf (m:List fT): Prop:=m.length<4294967296/\(∀c∈m,c.b.length<4294967296)/\(∀c∈m, -4294967296<=c.pos/\c.pos<=4294967296)
theorem VX (hT:W told){ch:V}{m:List fT}(s:Sat h (.arr 4 ch cs::fP cs m::S))(hd:storable dt=true)(hm:Gf m):
  Call ⟨Tryz.prog,told⟩ 190 [.agg (qv kd tx pv nx dt ch)] h λr h'=>r=.bool (iD kd m)/\Sat h' (.arr 4 ch cs::fP cs m::S):=by
 have wM:=s.uT (j:=0) U;have eG:=B7 (kd:=kd) (tx:=tx) (pv:=pv) (nx:=nx) hd wM.2.1;refine Call.of_wp (hT.free _ U) Tryz.func190 U U (zg U (au.cj s U U U (fC U eG) ?_));intro p1 h s;refine zk 5 U (zY s 0 BW bP U ?_);refine zd U (aq U U aK) ?_ ?_
 .intro hq;have hq:kd<1:=by simpa using hq
  exact zk 11 U (WP.ret ⟨aa,_,U,by rw[iD,f_ (by omega),mK],s.drop⟩)
 .intro hq;have hq:1<=kd:=by simpa using hq
  refine zm U (zY s 0 BW bP U ?_);refine zd U (aq U U cA) ?_ ?_
  .intro I;have I:9<kd:=by simpa using I
   exact zk 7 U (WP.ret ⟨aa,_,U,by rw[iD,f_ (by omega),mK],s.drop⟩)
  .intro I;have I:kd<=9:=by simpa using I
   refine zk 7 U (zY s 0 wF HL U (zo U (aD U U U (Ou s (j1:=1) (j2:=2) U U mu)) (zk 2 U (WP.block ?_))));have hg:iD kd m=m.all (λc=>decide c.Ok):=by rw[iD,dZ ⟨hq,I⟩,Db]
   refine Qu m.length 0 _ _ _ (by omega) hm.1 (λc hc=>by have:=hm.2.1 c hc;omega) hm.2.2 s.drop ⟨U,U,U,U,aa⟩ (λhf E' h' h2 s' => ?_) (λhf E' h' s' => ?_)
   .rw[hg];rw[ga] at hf;rw[hf];exact⟨aa,_,Aq h2,U,s'⟩
   .rw[hg];rw[ga] at hf;rw[hf];exact WP.has (F:=[]) aa (zK 4 U (WP.ret ⟨aa,_,U,U,s'⟩))
end
def pT (c:fT): List Nat:=digits 9 c.bT.toNat++digits 9 c.pos.toNat++[if c.whole then 1 else 0]++(digits 9 c.b.length++c.b)
def gU (kd:Int)(tx pv nx:Nat)(data:List Nat)(dG:List fT): List Nat :=
 [kd.toNat]++digits 9 tx++digits 9 pv++digits 9 nx++(digits 9 data.length++data)++digits 9 dG.length++dG.flatMap pT
section
variable {told:cu} {p:Nat} {v:V} {m:List Nat}
theorem r9 (I:W told)(s:Sat h (bf v l::S))(hn:n<18446744073709551616)(hl:l.length<=140737488355000):
  Call ⟨Tryz.prog,told⟩ 209 [v,.int .u64 (n:Int)] h λr h'=>Sat h' (bf r (l++digits 9 n)::S) :=
 (I3 I.Yg (k:=9) s.wf (s.buf (k:=0) U) (by omega) (by omega) (by omega)).mono λ_ _ ⟨h1,h2,h3⟩=>s.Dx h2 h1 h3
theorem H_ (hT:W told)(s:Sat h (bf v l::X::S))(I:cC X (cK w m))(hl:l.length+m.length<=140737488355000):
  Call ⟨Tryz.prog,told⟩ 210 [v,w] h λr h'=>Sat h' (bf r (l++(digits 9 m.length++m))::X::S) :=
 (ZE hT.Yg (k:=9) s.wf (s.buf (k:=0) U) (s.aC (k:=1) U I) (s.abK I) (by omega) (by omega) (by omega)).mono λ_ _ ⟨h1,h2,h3⟩=>by
  rw[dN] at h1;exact s.Dx h2 h1 h3
noncomputable def bdL : Code:=dm [1,1,1,1,0,1,0,0] ((Tryz.f191.body).getD .skip)
theorem S3 (hT:W told){ch:V}(jX:∀c∈dG,c.Ok)(dx:Gf dG): ∀(j i:Nat) (sv:V) (l:List Nat) (h:H) (E:List (Nat×V)) (Q:Ex->List (Nat×V)->H->Prop),i+j=dG.length ->
  l.length+((dG.drop i).flatMap pT).length<=140737488355000 ->
  Sat h (bf sv l::.arr 4 ch cs::fP cs dG::S)->Has E [(1,.ptr p1 0),(3,sv),(37,ch),(38,.int .i64 dG.length),(39,.int .i64 i)] ->
  (∀E' h' I,look E' 3=some I->Sat h' (bf I (l++(dG.drop i).flatMap pT)::.arr 4 ch cs::fP cs dG::S)->Q (.exit 2) E' h')->WP ⟨Tryz.prog,told⟩ 63 (.loop bdL) E h Q:=by
 intro j;induction j with
 |zero =>
  intro i sv l h E Q hi hlen s hE hx;have hm:=dx.1;refine WP.loop (WP.has hE (zg U (zC U aK (by simp;omega) ?_)));refine zk 3 U (WP.exit (hx _ _ sv U ?_));rw[qd (by omega)];simpa using s
 |succ j ih =>
  intro i sv l h E Q hi hlen s hE hx;have hm:=dx.1;have hc:dG[i]?=some (dG[i]'(by omega)):=aF _;generalize (dG[i]'(by omega))=c at hc;have B9:=aJ hc;have aeE:=jX c B9;have Ec:=dx.2.1 c B9;have vB:dG.drop i=c::dG.drop (i+1):=by
   obtain⟨h1,rfl⟩:=List.getElem?_eq_some_iff.1 hc;exact mH h1
  rw[vB,eE] at hlen hx;obtain⟨pg,ps,wh,bb⟩:=c;obtain⟨q1,q2,q3,q4,_⟩:=aeE;dsimp only at q1 q2 q3 q4 Ec;obtain⟨pg,rfl⟩:∃n:Nat,pg=n:=⟨pg.toNat,by omega⟩;obtain⟨ps,rfl⟩:∃n:Nat,ps=n:=⟨ps.toNat,by omega⟩;have VY:pT ⟨pg,ps,wh,bb⟩=digits 9 pg++digits 9 ps++[if wh then 1 else 0]++(digits 9 bb.length++bb):=by simp[pT]
  have wC:(pT ⟨pg,ps,wh,bb⟩).length=(digits 9 pg).length+(digits 9 ps).length+1+(digits 9 bb.length).length+bb.length:=by rw[VY];simp;omega
  rw[aO,wC] at hlen;obtain⟨id,off,u,e1,e2,u1,u2,u3,s⟩:=S2 (s.ae [1,1]) hc;dsimp only at e2;have s:=s.ae [3,0,0,0];dsimp only[aM,bringA,getA] at s;refine WP.loop (WP.has hE (zg U (zB U aK (by simp;omega) ?_)));refine zk 5 U (WP.block (zg U (zo U (bM (r:=.ptr id off) U U e1) (zl U e2 ?_))));refine au.cj s U U U (cm xy) (λp7 h s => ?_);dsimp only[V.cells,List.length_cons,List.length_nil,Nat.reduceAdd] at s;refine zS U (s.gZ (j:=0) U DE U (by simp only[l_,mL,u2];rfl)) ?_;intro h s;dsimp only[setA] at s;refine zk 2 U ?_;have s:=s.ae [1,0];dsimp only[bringA,getA,aM] at s;have s0:=s;refine WP.drawn [af,af,af,af,af,some (0,2),some (0,2),some (0,2),none,none] U (by kernel_rfl) (by kernel_rfl) ?_;refine zM U (zF U (HR _ _) (zL U (s.ld (k:=1) U bP U) (aB.op U U U (by simp only[isEff,eZ]) (cS U (by exact kU b_ eZ iO)) ?_)));refine aB.any U U U U (OpR.call U U U U (r9 hT s (by omega) (by omega))) ?_;intro v1 h s;have s1:=s;refine zF U (vX _ _) (zL U (s.ld (k:=1) U bP U) (aB.op U U U (by simp only[isEff,eZ]) (cS U (by exact kU b_ eZ iO)) ?_));refine aB.any U U U U (OpR.call U U U U (r9 hT s (by omega) (by simp;omega))) ?_;intro v2 h s;refine zA U ?_;refine aB.nil ⟨⟨aa,aa,aa,aa,aa,λ_ _=>.inr ⟨U,⟨_,m9 U (vX _ _)⟩,bx _ U⟩,gF (.inr ⟨U,⟨_,o_load U (s0.ld (k:=1) U bP U)⟩,bx _ U⟩) (.inr ⟨U,⟨_,o_load U (s1.ld (k:=1) U bP U)⟩,bx _ U⟩),λ_ _=>.inr ⟨U,⟨_,cS U (by exact kU b_ eZ iO)⟩,bx _ U⟩,aa,aa,aa⟩,?_⟩;have abT:∀(h:H) (E:List (Nat×V)) (I:V),Sat h (bf I (l++pT ⟨pg,ps,wh,bb⟩)::.arr 4 ch cs::fP cs dG::S)->Has E [(1,.ptr p1 0),(3,I),(37,ch),(38,.int .i64 dG.length),(39,.int .i64 ((i:Int)+1))]->WP ⟨Tryz.prog,told⟩ 63 (.loop bdL) E h Q:=by
   intro h E I s hE;refine ih (i+1) I _ h E Q (by omega) (by rw[aO,wC];omega) s hE (λE' h' sv2 D8 s'=>hx E' h' sv2 D8 ?_);rw[dN] at s';exact s'
  have I6:=iP 9 pg;have hlq:=iP 9 ps;refine zK 7 U (zf U (Od _ _) ?_);have Fo:wh=false\/wh=true:=by cases wh<;>simp
  rcases Fo with hw|hw
  .skip;refine zh U (o_load U (s.ld (k:=1) U sH U)) (hw) (zk 3 U ?_);have s0:=s;have I0:=nR (s.buf (k:=0) U).view;refine WP.drawn [some (0,2),af,af,af,some (0,3),some (0,3),none,none] U (by kernel_rfl) (by kernel_rfl) ?_;refine zM U (zM U (aB.any U U U U (OpR.J1 (n:=0) U s U U U (by decide)) ?_));intro v3 h s;have s:=s.ae [1,1,0];dsimp only[bringA,getA,aM] at s;have s1:=s;refine aB.any U U U U (OpR.qB U (s.ae [0,1]) (bh _ _) U U U U (by simp;omega)) ?_;intro v4 h s;have s:=s.del 1;dsimp only[aM,bringA] at s;have s2:=s;refine zF U (vY _ _) (zL U (s.ld (k:=1) U bS U) (aB.any U U U U (OpR.call U U U U (H_ hT (s.ae [0,1]) (bp _ _) (by simp;omega))) ?_));intro v5 h s;dsimp only[aM,bringA] at s;refine zA U ?_;refine aB.nil ⟨⟨λ_ _=>.inr ⟨U,⟨_,b7 U⟩,I0⟩,aa,aa,aa,λ_ _=>.inr ⟨U,⟨_,m9 U (vY _ _)⟩,bx _ U⟩,BN (.inr ⟨U,⟨_,o_load U (s0.ld (k:=1) U bS U)⟩,u3⟩) (.inr ⟨U,⟨_,o_load U (s1.ld (k:=1) U bS U)⟩,u3⟩) (.inr ⟨U,⟨_,o_load U (s2.ld (k:=1) U bS U)⟩,u3⟩),aa,aa,aa⟩,?_⟩;refine zr U (zb U (by exact aL ak) ?_);refine zm U (zv ?_);refine abT _ _ v5 ?_ ?_
   .rw[VY,hw];have s:=(s.del 1).del 1;dsimp only[aM] at s;simpa[dN] using s
   .exact⟨U,U,U,U,U,aa⟩
  .skip;refine zt U (o_load U (s.ld (k:=1) U sH U)) (hw) (zk 5 U ?_);have s0:=s;have I0:=nR (s.buf (k:=0) U).view;refine WP.drawn [some (0,2),af,af,af,some (0,3),some (0,3),none,none] U (by kernel_rfl) (by kernel_rfl) ?_;refine zM U (zM U (aB.any U U U U (OpR.J1 (n:=1) U s U U U (by decide)) ?_));intro v3 h s;have s:=s.ae [1,1,0];dsimp only[bringA,getA,aM] at s;have s1:=s;refine aB.any U U U U (OpR.qB U (s.ae [0,1]) (bh _ _) U U U U (by simp;omega)) ?_;intro v4 h s;have s:=s.del 1;dsimp only[aM,bringA] at s;have s2:=s;refine zF U (vY _ _) (zL U (s.ld (k:=1) U bS U) (aB.any U U U U (OpR.call U U U U (H_ hT (s.ae [0,1]) (bp _ _) (by simp;omega))) ?_));intro v5 h s;dsimp only[aM,bringA] at s;refine zA U ?_;refine aB.nil ⟨⟨λ_ _=>.inr ⟨U,⟨_,b7 U⟩,I0⟩,aa,aa,aa,λ_ _=>.inr ⟨U,⟨_,m9 U (vY _ _)⟩,bx _ U⟩,BN (.inr ⟨U,⟨_,o_load U (s0.ld (k:=1) U bS U)⟩,u3⟩) (.inr ⟨U,⟨_,o_load U (s1.ld (k:=1) U bS U)⟩,u3⟩) (.inr ⟨U,⟨_,o_load U (s2.ld (k:=1) U bS U)⟩,u3⟩),aa,aa,aa⟩,?_⟩;refine zr U (zb U (by exact aL ak) ?_);refine zm U (zv ?_);refine abT _ _ v5 ?_ ?_
   .rw[VY,hw];have s:=(s.del 1).del 1;dsimp only[aM] at s;simpa[dN] using s
   .exact⟨U,U,U,U,U,aa⟩
theorem VZ (hT:W told){kd:Nat}{ch:V}(s:Sat h (X::.arr 4 ch cs::fP cs dG::S))(hX:cC X (cK dt data))(hg:iD kd dG=true)(I:Gf dG)
 (Gg:tx<18446744073709551616)(Yl:pv<18446744073709551616)(B_:nx<18446744073709551616)(hlen:data.length+(dG.flatMap pT).length<=70368744177664):
  Call ⟨Tryz.prog,told⟩ 191 [.agg (qv kd tx pv nx dt ch)] h λr h'=>Sat h' (bf r (gU kd tx pv nx data dG)::X::.arr 4 ch cs::fP cs dG::S):=by
 have wM:=s.uT (j:=1) U;have A5:=s.aC (k:=0) U hX;have hdb:=nR A5;have eG:=B7 (kd:=kd) (tx:=tx) (pv:=pv) (nx:=nx) A5.cells.2 wM.2.1;have hk:1<=kd/\kd<=9:=by simp[iD] at hg;omega
 have jX:∀c∈dG,c.Ok:=by
  simp only[iD,bV,nG,ke] at hg;exact hg.2
 have hm:=I.1;have h1:=iP 9 tx;have h2:=iP 9 pv;have h3:=iP 9 nx;have h4:=iP 9 data.length;have h5:=iP 9 dG.length;refine Call.of_wp (hT.free _ U) Tryz.func191 U U (zg U (au.cj s U U U (fC U eG) ?_));intro p1 h s;dsimp only[V.cells] at s;refine zk 4 U (zY s 0 BW bP U (zo U (cS U (by exact kU b_ Tryz.underlying5 uB)) ?_));refine au.any U U U (OpR.J1 (n:=kd) U s U U U (by omega)) ?_;intro v3 h s;refine zk 5 U (zY s 1 abA sI U (zY s 1 abB sI U (zY s 1 abC sI U (zo U (cO U (by rw[adq];rfl)) ?_))));refine zk 2 U (WP.block (WP.loop (zg U (zB U aK (by decide) ?_))));refine zk 5 U (WP.block (zg U (zo U (Ak U U (r:=.int .u64 (tx:Int)) (by simp only[indexV,KU,P9,t_,sI];rfl)) ?_)));refine zk 5 U (zc U (r9 hT s (by omega) (by simp only[aO,aW,b6];omega)) ?_);intro v3 h s;refine za U (zv (zr U (zb U (by exact aL ak) ?_)));refine zm U (zv (WP.loop (zg U (zt U (aq U U aK) (by decide) ?_))));refine zk 5 U (WP.block (zg U (zo U (Ak U U (r:=.int .u64 (pv:Int)) (by simp only[indexV,KU,P9,t_,sI];rfl)) ?_)));refine zk 5 U (zc U (r9 hT s (by omega) (by simp only[aO,aW,b6];omega)) ?_);intro v3 h s;refine za U (zv (zr U (zb U (by exact aL ak) ?_)));refine zm U (zv (WP.loop (zg U (zt U (aq U U aK) (by decide) ?_))));refine zk 5 U (WP.block (zg U (zo U (Ak U U (r:=.int .u64 (nx:Int)) (by simp only[indexV,KU,P9,t_,sI];rfl)) ?_)));refine zk 5 U (zc U (r9 hT s (by omega) (by simp only[aO,aW,b6];omega)) ?_);intro v3 h s;refine za U (zv (zr U (zb U (by exact aL ak) ?_)));refine zm U (zv (WP.loop (zg U (zh U (aq U U aK) (by decide) ?_))));refine zk 3 U (WP.exit (zw ?_));have s0:=s;have nh:=nR (s.buf (k:=0) U).view;refine WP.drawn [af,af,af,af,some (0,2),some (0,2),some (0,2),some (0,2),none,none] U (by kernel_rfl) (by kernel_rfl) ?_;refine zM U (zF U (abD _ _) (zL U (s.ld (k:=1) U bS U) (aB.any U U U U (OpR.call U U U U (H_ hT (s.ae [0,1]) hX (by simp only[aO,aW,b6];omega))) ?_)));intro v4 h s;have s:=s.ae [0,1,0];have s1:=s;refine zF U (wF _ _) (zL U (s.ld (k:=1) U HL U) (zO U (aD U U U (s.B8 (j1:=3) (j2:=4) U U mu)) (aB.op U U U (by simp only[isEff,eZ]) (cS U (by exact kU b_ eZ iO)) ?_)));refine aB.any U U U U (OpR.call U U U U (r9 hT s (by omega) (by simp only[aO,aW,b6];omega))) ?_;intro v5 h s;refine zA U ?_;refine aB.nil ⟨⟨aa,aa,aa,aa,λ_ _=>.inr ⟨U,⟨_,m9 U (wF _ _)⟩,bx _ U⟩,gF (.inr ⟨U,⟨_,o_load U (s0.ld (k:=1) U HL U)⟩,wM.2.2⟩) (.inr ⟨U,⟨_,o_load U (s1.ld (k:=1) U HL U)⟩,wM.2.2⟩),gF (.inr ⟨U,⟨_,aD U U U (s0.B8 (j1:=3) (j2:=4) U U mu)⟩,bx _ U⟩) (.inr ⟨U,⟨_,aD U U U (s1.B8 (j1:=3) (j2:=4) U U mu)⟩,bx _ U⟩),λ_ _=>.inr ⟨U,⟨_,cS U (by exact kU b_ eZ iO)⟩,bx _ U⟩,aa,aa,aa⟩,?_⟩;refine zK 3 U (zY s 1 wF HL U (zo U (aD U U U (s.B8 (j1:=3) (j2:=4) U U mu)) (zk 2 U (WP.block ?_))));have s:=s.ae [0,2,2,1];refine S3 hT jX I dG.length 0 v5 _ _ _ _ (by omega) (by rw[ga];simp only[aO,aW,b6];omega) s ⟨U,U,U,U,U,aa⟩ (λE' h' sv' dY s' => ?_);refine WP.has (F:=[(3,sv')]) ⟨dY,aa⟩ (zK 5 U (WP.ret ⟨aa,_,U,?_⟩));have s'':=(s'.ae [0,2,0,0]).del 4;dsimp only[List.cons_append,List.nil_append,List.drop,aM,bringA,getA] at s'';simpa[gU,dN] using s''
end
def uU (bj:Nat)(b:List Nat): List Nat:=le 4 b.length++le 4 (F9 bj b)++b
theorem wN (bj:Nat)(b:List Nat): (uU bj b).length=8+b.length:=by simp[uU,cQ];omega
theorem Ay : ∃i,Tryz.prog.info? 3=some i/\i.size=1/\i.bytes=8 :=
 ⟨_,(show Tryz.prog.info? 3=some ((Tryz.prog.info? 3).getD default) by kernel_rfl),by kernel_rfl,by kernel_rfl⟩
section
variable {told:cu} {p:Nat} {v:V} {m:List Nat}
theorem S4 (I:W told)(s:Sat h S)(hk:getA S k=some X)(hX:cC X (cK v l))(hl:l.length<=4611686018427387904):
  Call ⟨Tryz.prog,told⟩ 192 [.int .u64 (n:Int),v] h λr h'=>r=.int .u32 (F9 n l:Nat)/\Sat h' S :=
 (SM I.Yg s.wf (s.aC hk hX) hl).mono λ_ _ ⟨h1,h2⟩=>⟨h1,s.qA h2⟩
structure Gh (tx pv nx:Nat)(data:List Nat)(dG:List fT): Prop where
 fit:Gf dG
 tx:tx<18446744073709551616
 pv:pv<18446744073709551616
 nx:nx<18446744073709551616
 len:data.length+(dG.flatMap pT).length<=70368744177664
theorem S5 (hT:W told){ch:V}(s:Sat h (X::.arr 4 ch cs::fP cs dG::S))(hX:cC X (cK dt data))(I:Gh tx pv nx data dG):
  Call ⟨Tryz.prog,told⟩ 140 [.agg (qv kd tx pv nx dt ch),.int .u64 (bj:Int)] h λr h' =>
  (iD kd dG=false/\r=.aX [.aZ,.int .i64 1]/\Sat h' (X::.arr 4 ch cs::fP cs dG::S)) \/
  (iD kd dG=true/\1048576<(gU kd tx pv nx data dG).length/\r=.aX [.aZ,.int .i64 2]/\Sat h' (X::.arr 4 ch cs::fP cs dG::S)) \/
  (iD kd dG=true/\(gU kd tx pv nx data dG).length<=1048576/\∃u,r=.aX [u,.int .i64 0]/\Sat h' (bf u (uU bj (gU kd tx pv nx data dG))::X::.arr 4 ch cs::fP cs dG::S)):=by
 have wM:=s.uT (j:=1) U;have A5:=s.aC (k:=0) U hX;have eG:=B7 (kd:=kd) (tx:=tx) (pv:=pv) (nx:=nx) A5.cells.2 wM.2.1;refine Call.of_wp (hT.free _ U) Tryz.func140 U U (zg U (au.cj s U U U (fC U eG) ?_));intro p1 h s;dsimp only[V.cells] at s;refine zk 6 U (zl U (s.b9 (k:=0) U HM Ar) (zc U (VX hT (s.ae [2,2]) A5.cells.2 I.fit) ?_));rintro r h' ⟨rfl,s⟩;cases hg:iD kd dG with
 |false =>
  exact zo U (eo U U) (zk 7 U (WP.ret ⟨aa,_,U,.inl ⟨U,U,(s.ae [3,0,0]).del 3⟩⟩))
 |true =>
  refine zo U (eo U U) (zk 5 U (zl U (s.b9 (k:=2) U HM Ar) ?_));have hk:∃n:Nat,kd=n:=⟨kd.toNat,by simp[iD] at hg;omega⟩;obtain⟨kd,rfl⟩:=hk;refine zc U (VZ hT (s.ae [3,0,0]) hX hg I.fit I.tx I.pv I.nx I.len) ?_;intro u h s;dsimp only[bringA,getA,aM] at s;have K5:(gU kd tx pv nx data dG).length<9223372036854775808:=by
   have h1:=iP 9 tx;have h2:=iP 9 pv;have h3:=iP 9 nx;have h4:=iP 9 data.length;have h5:=iP 9 dG.length;have h6:=I.len;simp only[gU,aO,aW,b6];omega
  generalize R8:gU kd tx pv nx data dG=bd at s K5 ⊢;refine zk 6 U (zo U (aD U U U (bw aP (s.aC (k:=0) U (bh _ _)))) ?_);by_cases K9:1048576<bd.length
  .skip;refine zB U cA (by simp;omega) ?_;exact zk 7 U (WP.ret ⟨aa,_,U,.inr (.inl ⟨U,K9,U,(s.del 4).del 0⟩)⟩)
  .skip;refine zC U cA (by simp;omega) ?_;refine zk 6 U (zo U (aD U U U (bw aP (s.aC (k:=0) U (bh _ _)))) (zb U (by exact aL ak) ?_));refine au.any U U U (OpR.uD (c:=8+bd.length) U s U U U U (by omega)) ?_;intro v h s;refine zm U (zo U (aD U U U (bw aP (s.aC (k:=1) U (bh _ _)))) (zo U (cS U (by exact kU b_ eZ iO)) ?_));refine zc U (Ge (z:=4) hT s (by decide) (by simp)) ?_;intro v h s;have cq:=(s.buf (k:=1) U).1;refine zk 7 U (zc U (S4 (n:=bj) hT s (k:=1) U (bh _ _) (by omega)) ?_);rintro r h ⟨rfl,s⟩;have jF:=VQ (bj:=bj) cq;refine zo U (cS U (by exact kU Tryz.underlying260 eZ iO)) ?_;refine zc U (Ge (z:=4) hT s (by decide) (by simp[cQ])) ?_;intro v h s;refine zk 6 U (au.any U U U (OpR.qB U s (bh _ _) U U U U (by simp only[aO,cQ,b6];omega)) ?_);intro v h s;refine zk 3 U (WP.ret ⟨aa,_,U,?_⟩);refine .inr (.inr ⟨U,by omega,v,U,?_⟩);have s:=(s.del 5).del 1;dsimp only[aM] at s;simpa[uU,dN] using s
def Lg.app (μ:Lg)(b:List Nat): Lg:={ μ with b:=μ.b++b,dR:=μ.dR++[μ.b.length] }
theorem Qv (hT:W told){ch:V}(s:Sat h (dH q p μ::bZ p δ::X::.arr 4 ch cs::fP cs dG::S))(hX:cC X (cK dt data))(dx:Gh tx pv nx data dG)
 (vC:μ.Ok)(hf:δ.cV<4294967296)(hl:δ.log.length<=16777216)(hr:δ.room<=16777216):
  Call ⟨Tryz.prog,told⟩ 59 [.ptr q 0,.agg (qv kd tx pv nx dt ch)] h λr h' =>
  (∃e:Int,r=.aX [.int .u64 0,.int .i64 e]/\((iD kd dG=false/\e=1)\/(iD kd dG=true/\1048576<(gU kd tx pv nx data dG).length/\e=2)\/(iD kd dG=true/\(gU kd tx pv nx data dG).length<=1048576/\δ.dead=true/\e=9) \/
    (iD kd dG=true/\(gU kd tx pv nx data dG).length<=1048576/\δ.dead=false/\δ.room<δ.log.length+(uU (μ.base+μ.b.length) (gU kd tx pv nx data dG)).length/\e=7))/\Sat h' (dH q p μ::bZ p δ::X::.arr 4 ch cs::fP cs dG::S)) \/
  (iD kd dG=true/\(gU kd tx pv nx data dG).length<=1048576/\δ.dead=false/\δ.log.length+(uU (μ.base+μ.b.length) (gU kd tx pv nx data dG)).length<=δ.room/\δ.cV=0/\r=.aX [.int .u64 0,.int .i64 9] /\
   Sat h' (dH q p μ::bZ p { δ.die with tail:=uU (μ.base+μ.b.length) (gU kd tx pv nx data dG) }::X::.arr 4 ch cs::fP cs dG::S)) \/
  (iD kd dG=true/\(gU kd tx pv nx data dG).length<=1048576/\δ.dead=false/\δ.log.length+(uU (μ.base+μ.b.length) (gU kd tx pv nx data dG)).length<=δ.room/\δ.cV≠0/\r=.aX [.int .u64 ((μ.base+μ.b.length:Nat):Int),.int .i64 0] /\
   Sat h' (dH q p (μ.app (uU (μ.base+μ.b.length) (gU kd tx pv nx data dG)))::bZ p { δ.gu with log:=δ.log++uU (μ.base+μ.b.length) (gU kd tx pv nx data dG) }::X::.arr 4 ch cs::fP cs dG::S)):=by
 have wM:=s.uT (j:=3) U;have A5:=s.aC (k:=2) U hX;have eG:=B7 (kd:=kd) (tx:=tx) (pv:=pv) (nx:=nx) A5.cells.2 wM.2.1;have Qt:=vC.size;refine Call.of_wp (hT.free _ U) Tryz.func59 U U (zg U (au.cj s U U U (fC U eG) ?_));intro p1 h s;dsimp only[V.cells] at s;have s:=s.ae [1,0];refine zk 6 U (zc U (H8 hT s vC.size) ?_);rintro v h' ⟨rfl,rfl⟩;refine zk 4 U (zl U (s.b9 (k:=1) U HM Ar) (zm U (zc U (S5 (bj:=μ.base+μ.b.length) hT (s.ae [3,3,3]) hX dx) ?_)));generalize hrc:uU (μ.base+μ.b.length) (gU kd tx pv nx data dG)=rc;have Ca:rc.length=8+(gU kd tx pv nx data dG).length:=by rw[<-hrc,wN]
 rintro r h' (⟨hg,rfl,s⟩|⟨hg,K9,rfl,s⟩|⟨hg,zD,u,rfl,s⟩)
 .dsimp only[bringA,getA,aM] at s;exact zk 10 U (zB U aG (U) (zk 8 U (WP.ret ⟨aa,_,U,.inl ⟨1,U,.inl ⟨hg,U⟩,(s.ae [3,4,0,0,0]).del 5⟩⟩)))
 .dsimp only[bringA,getA,aM] at s;exact zk 10 U (zB U aG (U) (zk 8 U (WP.ret ⟨aa,_,U,.inl ⟨2,U,.inr (.inl ⟨hg,K9,U⟩),(s.ae [3,4,0,0,0]).del 5⟩⟩)))
 .dsimp only[bringA,getA,aM] at s;have cq:=(s.buf (k:=0) U).1;obtain⟨lS,_,cap,_,rfl,_⟩:=s.eX (by omega);obtain⟨bv,sv,s⟩:=jr.1 (s.ae [4]);refine zk 10 U (zC U aG (U) (zk 8 U (zY s 0 Oc yg U (zm U ?_))));have s:=s.ae [8,3];refine zc U (Qn hT s (bh _ _) (by omega) hf (by omega) (by omega)) ?_;rintro r h (⟨hd,rfl,s⟩|⟨hd,vD,rfl,s⟩|⟨hd,I,h0,rfl,s⟩|⟨hd,I,h0,rfl,s⟩)
  .refine au.op U U U (iV U) ?_;exact zk 4 U (zB U aG (U) (zk 8 U (WP.ret ⟨aa,_,U,.inl ⟨9,U,.inr (.inr (.inl ⟨hg,zD,hd,U⟩)),(jr.2 ⟨bv,sv,((s.ae [2,2,2,0,1,1,1]).del 8).del 7⟩)⟩⟩)))
  .skip;exact zk 5 U (zB U aG (U) (zk 8 U (WP.ret ⟨aa,_,U,.inl ⟨7,U,.inr (.inr (.inr ⟨hg,zD,hd,by omega,U⟩)),(jr.2 ⟨bv,sv,((s.ae [2,2,2,0,1,1,1]).del 8).del 7⟩)⟩⟩)))
  .skip;exact zk 5 U (zB U aG (U) (zk 8 U (WP.ret ⟨aa,_,U,.inr (.inl ⟨hg,zD,hd,I,h0,U,(jr.2 ⟨bv,sv,((s.ae [2,2,2,0,1,1,1]).del 8).del 7⟩)⟩)⟩)))
  .skip;have s:=s.ae [2,2,2,1,0,0,0,0];refine zk 5 U (zC U aG (U) (zk 4 U ?_));have s0:=s;have hbb:=nR (s.buf (k:=1) U).view;have Ym:=(s.uT (j:=2) U).2.2;refine WP.drawn [some (0,3),some (0,2),some (0,2),some (0,2),some (0,2),af,af,af,af,af,af,af,af,af,af] U (by kernel_rfl) (by kernel_rfl) ?_;refine zM U (zM U (zN U (zF U (tM _ _) (zL U (s.ld (k:=0) U Ev U) (zM U (zN U (zF U (nU _ _) (zL U (s.ld (k:=0) U bS U) (zO U (aD U U U (bw aP (s.aC (k:=1) U (bh _ _)))) ?_)))))))));obtain⟨i1,c9,fH,pR⟩:=Ay;obtain⟨iv,h1,e1,s1⟩:=kV (P:=Tryz.prog) (k:=1) (x:=.int .i64 (μ.b.length:Int)) s dF BT lQ U (by decide) (by decide) U U;dsimp only[V.cells] at s1;refine aB.any U U U U (OpR.of (R:=λv h'=>v=iv/\h'=h1) (je U e1) ⟨U,U⟩) ?_;rintro v h' ⟨rfl,rfl⟩;have Yk:=vC.many;obtain⟨sv',h2,e2,s2⟩:=iw (s1.ae [3,0]) dF c9 BT fH (by omega) U (by decide) (by simp only[jz,aW,b6];omega);refine aB.any U U U U (OpR.of (R:=λv h'=>v=sv'/\h'=h2) (iY U U e2) ⟨U,U⟩) ?_;rintro v h' ⟨rfl,rfl⟩;have hv:=s2.uT (j:=0) U;refine zN U (zF U (tM _ _) (aB.lJ U U U (OpR.yW U U U (s2.kC (k:=2) U aeq U (by decide) hv.1 hv.2.1)) ?_));rintro v h ⟨rfl,s⟩;refine aB.nil ⟨⟨λ_ _=>.inr ⟨U,⟨_,b7 U⟩,bx _ U⟩,λ_ _=>.inr ⟨U,⟨_,b7 U⟩,bx _ U⟩,λ_ _=>.inr ⟨U,⟨_,vr U⟩,bx _ U⟩,λ_ _=>.inr ⟨U,⟨_,m9 U (tM _ _)⟩,bx _ U⟩,gF (.inr ⟨U,⟨_,o_load U (s0.ld (k:=0) U Ev U)⟩,Ym⟩) (.inr ⟨U,⟨_,o_load U (s1.ld (k:=1) U Ev U)⟩,Ym⟩),yr 11⟩,?_⟩;refine zK 5 U (zY s 2 nU bS U (zm U (au.any U U U (OpR.qB U (s.ae [3,3]) (bh _ _) U U U U (by have:=vC.len;omega)) ?_)));intro bv' h s;have hv:=(s.buf (k:=0) U).view.cells;refine zn U (zf U (nU _ _) (zS U (s.kC (k:=4) U dP U (by decide) hv.1 hv.2) ?_));intro h s;refine zk 7 U (WP.ret ⟨aa,_,U,?_⟩);refine .inr (.inr ⟨hg,zD,hd,I,h0,U,jr.2 ⟨bv',v,?_⟩⟩);have s:=(((s.ae [4,0,1]).del 4).del 3).del 7;have e:cJ (μ.app rc).dR=cJ μ.dR++[.int .i64 (μ.b.length:Int)]:=by simp[Lg.app,cJ]
   rw[e];exact s
end
def Dk.jh (δ:Dk): Int×Dk:=if δ.dead=true then(9,δ) else if δ.cV=0 then(9,δ.die) else(0,{ δ.gu with gS:=δ.log.length })
def Dk.eP (δ:Dk)(n:Int)(b:List Nat): Int×Dk:=if δ.dead=true then(9,δ) else if ¬(0<=n/\n<δ.bI.length/\b.length=512) then(1,δ) else
 if δ.cV=0 then(9,{ δ.die with HY:=some (n.toNat,b) }) else(0,δ.wr n b)
def Dk.tU (δ:Dk)(b:List Nat): Int×Dk:=if δ.dead=true then(9,δ) else if δ.room<δ.log.length+b.length then(7,δ) else if δ.cV=0 then(9,{ δ.die with tail:=b }) else(0,{ δ.gu with log:=δ.log++b })
def Dk.uj (δ:Dk)(n:Int): Int:=if δ.dead=true then 9 else if ¬(0<=n/\n<δ.bI.length) then 1 else 0
structure Dk.Ok (δ:Dk): Prop where
 cV:δ.cV<4294967296
 len:δ.log.length<=16777216
 room:δ.room<=16777216
 now:∀e∈δ.now,e.2.length=512
 bI:∀(i:Nat) (b:List Nat),δ.bI[i]?=some (some b)->b.length=512
 gS:δ.gS<=δ.log.length
 many:δ.bI.length<=65536
theorem Dk.Ok.gu (h:δ.Ok): δ.gu.Ok:=⟨by have:=h.cV;simp only[Dk.gu];split<;>omega,h.len,h.room,h.now,h.bI,h.gS,h.many⟩
theorem Dk.Ok.die (h:δ.Ok): δ.die.Ok:=⟨h.cV,h.len,h.room,h.now,h.bI,h.gS,h.many⟩
theorem Dk.Ok.jh (h:δ.Ok): δ.jh.2.Ok:=by
 unfold Dk.jh;split
 .exact h
 .split
  .exact h.die
  .exact⟨h.gu.cV,h.len,h.room,h.now,h.bI,aH _,h.many⟩
theorem om {n:Int}{x:α}: ∀ {l:List (Int×α)},lookL n l=some x->(n,x)∈l:=by
 intro l;induction l<;>grind[lookL]
theorem Dk.Ok.at (I:δ.Ok)(n:Int): (δ.at n).length=512:=by
 unfold Dk.at;cases h1:lookL n δ.now with
 |some b=>exact I.now _ (om h1)
 |none =>
  cases h2:δ.bI[n.toNat]? with
  |none=>grind
  |some o =>
   cases o with
   |none=>grind
   |some b=>exact I.bI _ _ h2
section
variable {told:cu} {p:Nat} {v:V}
theorem ZR (I:W told){n:Int}(s:Sat h (bZ p δ::X::S))(hX:cC X (cK x b))(hb:b.length<1073741824)(hf:δ.cV<4294967296)(hw:δ.waiting.length<=268435456):
  Call ⟨Tryz.prog,told⟩ 183 [.ptr p 0,.int .i64 n,x] h λv h'=>v=.int .i64 (δ.eP n b).1/\Sat h' (bZ p (δ.eP n b).2::X::S):=by
 refine(SR I s hX hb hf hw).mono λv h' hr => ?_;grind[Dk.eP]
theorem S6 (hT:W told){n:Int}(s:Sat h (bZ p δ::S))(I:δ.Ok): Call ⟨Tryz.prog,told⟩ 148 [.ptr p 0,.int .i64 n] h λv h' =>
  (δ.uj n≠0/\v=.aX [.aZ,.int .i64 (δ.uj n)]/\Sat h' (bZ p δ::S))\/(δ.uj n=0/\∃u,v=.aX [u,.int .i64 0]/\Sat h' (bf u (δ.at n)::bZ p δ::S)):=by
 refine(VR hT s (I.at n)).mono λv h' hr => ?_;grind[Dk.uj]
end
abbrev LD := Lg×Dk
def cR (x:LD)(n:Nat): Int×LD:=if n<x.1.base+x.1.forced then(0,x) else if x.2.jh.1≠0 then(x.2.jh.1,(x.1,x.2.jh.2)) else(0,({ x.1 with forced:=x.1.b.length },x.2.jh.2))
def gD (μ:Lg)(kd:Int)(tx pv nx:Nat)(data:List Nat)(dG:List fT): List Nat:=uU (μ.base+μ.b.length) (gU kd tx pv nx data dG)
def bX (x:LD)(kd:Int)(tx pv nx:Nat)(data:List Nat)(dG:List fT): (Nat×Int)×LD :=
 if iD kd dG=false then((0,1),x) else if 1048576<(gU kd tx pv nx data dG).length then((0,2),x) else
 if (x.2.tU (gD x.1 kd tx pv nx data dG)).1≠0 then((0,(x.2.tU (gD x.1 kd tx pv nx data dG)).1),(x.1,(x.2.tU (gD x.1 kd tx pv nx data dG)).2)) else
 ((x.1.base+x.1.b.length,0),(x.1.app (gD x.1 kd tx pv nx data dG),(x.2.tU (gD x.1 kd tx pv nx data dG)).2))
theorem Nf : δ.jh.2.waiting=δ.waiting:=by
 unfold Dk.jh;split
 .rfl
 .split<;>rfl
theorem Cb {x:LD}: (cR x n).2.2.waiting=x.2.waiting:=by
 grind[cR,Nf]
theorem Dk.Ok.eP {n:Int}(h:δ.Ok): (δ.eP n b).2.Ok:=by
 unfold Dk.eP;split
 .exact h
 .split
  .exact h
  .split
   .exact⟨h.cV,h.len,h.room,h.now,h.bI,h.gS,h.many⟩
   .refine⟨h.gu.cV,h.len,h.room,λe he => ?_,h.bI,h.gS,h.many⟩;have:∀l:List (Int×List Nat),(∀e∈l,e.2.length=512)->∀e∈cD n b l,e.2.length=512:=by
     intro l;induction l<;>grind[cD]
    exact this δ.now h.now e he
theorem vE {x:LD}(h:x.2.Ok): (cR x n).2.2.Ok:=by
 unfold cR;split
 .exact h
 .split
  .exact h.jh
  .exact h.jh
theorem Lg.Ok.ZS (h:μ.Ok): ({ μ with forced:=μ.b.length }:Lg).Ok:=⟨h.size,h.many,h.low,h.H7,aH _,h.len,h.check⟩
theorem Ng {x:LD}(h:x.1.Ok): (cR x n).2.1.Ok:=by
 unfold cR;split
 .exact h
 .split
  .exact h
  .exact h.ZS
section
variable {told:cu} {p:Nat} {v:V}
theorem ZT (hT:W told)(s:Sat h (dH q p μ::bZ p δ::S))(I:μ.Ok)(hf:δ.cV<4294967296): Call ⟨Tryz.prog,told⟩ 103 [.ptr q 0,.int .u64 (n:Int)] h λv h' =>
  v=.int .i64 (cR (μ,δ) n).1/\Sat h' (dH q p (cR (μ,δ) n).2.1::bZ p (cR (μ,δ) n).2.2::S):=by
 refine(S1 hT s I hf).mono λv h' hr => ?_;grind[cR,Dk.jh]
theorem V0 (hT:W told){ch:V}(s:Sat h (dH q p μ::bZ p δ::X::.arr 4 ch cs::fP cs dG::S))(hX:cC X (cK dt data))(dx:Gh tx pv nx data dG)(vC:μ.Ok)(I:δ.Ok):
  Call ⟨Tryz.prog,told⟩ 59 [.ptr q 0,.agg (qv kd tx pv nx dt ch)] h λr h' =>
  r=.aX [.int .u64 ((bX (μ,δ) kd tx pv nx data dG).1.1:Nat),.int .i64 (bX (μ,δ) kd tx pv nx data dG).1.2] /\
  Sat h' (dH q p (bX (μ,δ) kd tx pv nx data dG).2.1::bZ p (bX (μ,δ) kd tx pv nx data dG).2.2::X::.arr 4 ch cs::fP cs dG::S):=by
 refine(Qv hT s hX dx vC I.cV I.len I.room).mono λv h' hr => ?_;grind[bX,Dk.tU,gD]
end
structure Fm where
 bT:Int
 b:List Nat
 pins:Int
 gV:Bool
 changed:Bool
structure Pl where
 aj:List Fm
 bY:List (Int×Int)
 eu:List (Int×(Nat×Bool))
 hand:Nat
variable {π cB:Pl}
def iC (f:Fm)(v:V): List V:=[.int .i64 f.bT,v,.int .i64 f.pins,.bool f.gV,.bool f.changed]
def wO : List V->List Fm->aE
 |[],[]=>.pu True
 |a::v::c::d::e::l,x::m=>.an (.an (.pu (a=.int .i64 x.bT/\c=.int .i64 x.pins/\d=.bool x.gV/\e=.bool x.changed)) (.b8 v x.b)) (wO l m)
 |_,_=>.pu False
theorem aI.fm : ∀(m:List Fm) (l:List V),aI (wO l m):=by
 intro m;induction m with
 |nil=>intro l;rcases l with _|⟨a,_|⟨b,_|⟨c,_|⟨d,_|⟨e,l⟩⟩⟩⟩⟩<;>exact aI.pu _
 |cons x m I=>intro l;rcases l with _|⟨a,_|⟨b,_|⟨c,_|⟨d,_|⟨e,l⟩⟩⟩⟩⟩<;>first|exact aI.pu _|exact aI.an (aI.an (aI.pu _) (aI.b8 _ _)) (I l)
theorem Cc {a b:PM}: ∀ {m:List Fm} {l:List V} {i:Nat} {f:Fm},(wO l m).p a b->m[i]?=some f->∃pre v post,l=pre++(iC f v++post)/\pre.length=i*5/\(aE.b8 v f.b).p a b /\
  (∀(f':Fm) (v':V) (I b':PM),(aE.b8 v' f'.b).p I b'->PM.le a I->PM.le b b'->(wO (pre++(iC f' v'++post)) (m.set i f')).p I b'):=by
 intro m;induction m with
 |nil=>intro l i f h hc;simp at hc
 |cons x m ih =>
  intro l i f h hc;rcases l with _|⟨p,_|⟨q,_|⟨w,_|⟨d,_|⟨e,l⟩⟩⟩⟩⟩<;>first|exact h.elim|skip
  obtain⟨⟨⟨h1,h2,h3,h4⟩,h5⟩,h6⟩:=h;cases i with
  |zero =>
   simp at hc;subst hc;refine⟨[],q,l,?_,U,h5,λf' v' I b' hv ha hb=>⟨⟨⟨U,U,U,U⟩,hv⟩,(wO l m).mono _ _ _ _ ha hb h6⟩⟩;rw[h1,h2,h3,h4];rfl
  |succ i =>
   simp at hc;obtain⟨pre,v,post,e1,e2,e3,e4⟩:=ih h6 hc;refine⟨p::q::w::d::e::pre,v,post,?_,?_,e3,λf' v' I b' hv ha hb=>⟨⟨⟨h1,h2,h3,h4⟩,aE.mono _ _ _ _ _ ha hb h5⟩,e4 f' v' I b' hv ha hb⟩⟩
   .rw[e1];rfl
   .simp only[aW,e2];omega
theorem ZU {a b:PM}: ∀ {m:List Fm} {l:List V},(wO l m).p a b->l.length=m.length*5:=by
 intro m;induction m with
 |nil=>intro l h;rcases l with _|⟨a,_|⟨b,_|⟨c,_|⟨d,_|⟨e,l⟩⟩⟩⟩⟩<;>first|rfl|exact h.elim
 |cons x m I =>
  intro l h;rcases l with _|⟨a,_|⟨b,_|⟨c,_|⟨d,_|⟨e,l⟩⟩⟩⟩⟩<;>first|exact h.elim|skip
  have:=I h.2;simp only[aW];omega
def gj (dX:Nat)(m:List Fm): aE:=xs λcs:List V=>star [pt dX (.cells (m.length*5) cs false),wO cs m]
abbrev K_ (v:V)(m:List (Int×Int)): aE:=pQ (λv x=>.pu (v=.int .i64 x)) v m
abbrev Ov (v:V)(m:List (Int×(Nat×Bool))): aE:=pQ (λv x=>.pu (v=.agg [.int .u64 (x.1:Int),.bool x.2])) v m
def sS (p q dX n:Nat)(wh di:V)(hand:Nat): List V:=[.ptr p 0,.ptr q 0,.sl dX 0 n (.exact n),wh,di,.int .i64 (hand:Int)]
def gG (r p q:Nat)(π:Pl): aE:=xs λdX:Nat=>xs λwh:V=>xs λdi:V =>
 star [pt r (.cells 6 (sS p q dX π.aj.length wh di π.hand) false),gj dX π.aj,K_ wh π.bY,Ov di π.eu]
section
variable {p:Nat} {v:V} {m:List Fm}
theorem gW : Sat h (gG r p q π::S)↔∃dX wh di,Sat h (pt r (.cells 6 (sS p q dX π.aj.length wh di π.hand) false)::gj dX π.aj::K_ wh π.bY::Ov di π.eu::S):=by
 simp only[gG,jv,cY,fJ,dL]
theorem lT : Sat h (gj dX m::S)↔∃cs,Sat h (pt dX (.cells (m.length*5) cs false)::wO cs m::S):=by
 simp only[gj,jv,cY,fJ,dL]
theorem kG {f:Fm}(s:Sat h (gj dX m::S))(hf:m[i]?=some f): ∃pre v post,pre.length=i*5/\(pre++(iC f v++post)).length=m.length*5 /\
  Sat h (pt dX (.cells (m.length*5) (pre++(iC f v++post)) false)::wO (pre++(iC f v++post)) m::.b8 v f.b::S):=by
 obtain⟨cs,s⟩:=lT.1 s;obtain⟨a,b,q1,q2,q3⟩:=s.at (k:=1) U;obtain⟨pre,v,post,e1,e2,e3,_⟩:=Cc q3 hf;have hl:=ZU q3;subst e1;refine⟨pre,v,post,e2,hl,?_⟩;have s1:Sat h (wO (pre++(iC f v++post)) m::pt dX (.cells (m.length*5) (pre++(iC f v++post)) false)::S):=s.ae [1];have s2:=(s1.dup (aI.fm _ _)).dM (B:=.b8 v f.b) λa' b' h'=>by
  obtain⟨aeF,v',I,wP,sR,e3',_⟩:=Cc h' hf;have:=Hv wP (by omega);obtain⟨_,h5⟩:=this;have h6:=dg (λl=>l[1]?) h5;simp[iC] at h6;subst h6;exact e3'
 exact s2.ae [2,1,0]
theorem iK {f f':Fm}{pre:List V}(s:Sat h (pt dX (.cells n (pre++(iC f' v'++post)) false)::wO (pre++(iC f v++post)) m::.b8 v' f'.b::S))(hn:n=m.length*5)(hf:m[i]?=some f)(hp:pre.length=i*5): Sat h (gj dX (m.set i f')::S):=by
 subst hn;have s1:Sat h (wO (pre++(iC f v++post)) m::.b8 v' f'.b::pt dX (.cells (m.length*5) (pre++(iC f' v'++post)) false)::S):=s.ae [1,1,0];have s2:=s1.two (C:=wO (pre++(iC f' v'++post)) (m.set i f')) (aI.fm _ _) (aI.b8 _ _) λa b h1 h2=>by
  obtain⟨aeF,v0,I,wP,sR,e3',e4'⟩:=Cc h1 hf;obtain⟨h3,h4⟩:=Hv wP (by omega);subst h3;have h5:post=I:=by
   have:=Hv h4 (by simp[iC]);exact this.2
  subst h5;exact e4' f' v' a b h2 (PM.le_refl _) (PM.le_refl _)
 refine lT.2 ⟨pre++(iC f' v'++post),?_⟩;rw[cG];exact s2.ae [1]
theorem jV {pre row:List V}(hp:pre.length=a)(I:nth row j=some x): nth (pre++(row++post)) (a+j)=some x:=by
 rw[gE] at I ⊢;have I4:=(List.getElem?_eq_some_iff.1 I).1;rw[hU (by omega),show a+j-pre.length=j by omega,rE I4,I]
theorem ZV {pre row:List V}(hp:pre.length=a)(I:j<row.length): (pre++(row++post)).set (a+j) x=pre++(row.set j x++post):=by
 rw[G_ _ _ (by omega),show a+j-pre.length=j by omega,List.set_append_left _ _ I]
theorem Sat.stM {pre row:List V}(s:Sat h S)(hk:getA S k=some (pt id (.cells n (pre++(row++post)) false)))(hs:bq P t=some 1)(hp:pre.length=a)(hl:(pre++(row++post)).length=n)(hj:j<row.length)(hv:x.cells=[x])(I:storable x=true):
  ∃h₁,j8 P h t (.ptr id (a+j)) x=some h₁/\Sat h₁ (setA S k (pt id (.cells n (pre++(row.set j x++post)) false))):=by
 have:=s.kC (P:=P) (t:=t) (off:=a+j) (v:=x) hk hs hl (by rw[<-hl];simp;omega) hv I
 rwa [ZV hp hj] at this
theorem Sat.Yn {pre row row':List V}(s:Sat h S)(hk:getA S k=some (pt id (.cells n (pre++(row++post)) false)))(hs:bq P t=some row'.length)(hp:pre.length=a)(hl:(pre++(row++post)).length=n)(hr:row'.length=row.length)(I:row'.all storable=true):
  ∃h₁,j8 P h t (.ptr id a) (.agg row')=some h₁/\Sat h₁ (setA S k (pt id (.cells n (pre++(row'++post)) false))):=by
 have:=s.stN (P:=P) (t:=t) (off:=a) (l:=row') hk hs hl (by rw[<-hl];simp;omega) I;have e:(pre++(row++post)).take a++(row'++(pre++(row++post)).drop (a+row'.length))=pre++(row'++post):=by
  rw[fY hp,vJ,qd (by omega),dL,show a+row'.length-pre.length=row.length by omega,vM U]
 rwa [e] at this
theorem ldF {pre row:List V}(s:Sat h S)(I:getA S k=some (pt id (.cells n (pre++(row++post)) false)))(ht:isAggT P t=some true)(hs:bq P t=some row.length)(hp:pre.length=a)(hl:(pre++(row++post)).length=n): loadV P h t (.ptr id a)=some (.agg row):=by
 rw[ldN ht hs (s.row I) hl (by rw[<-hl];simp;omega),vM hp,fY U]
end
abbrev bA := Pl×LD
variable {ε ah:bA}
def v7 (π:Pl)(n:Int): Nat:=match lookL n π.eu with
 |some x=>x.1
 |none=>0
def outF (ε:bA)(i:Nat): Int×bA:=match ε.1.aj[i]? with
 |none=>(0,ε)
 |some f=>if f.bT<0\/f.changed=false then(0,ε) else if cI f.b=false then(4,ε) else
  if (cR ε.2 (dQ f.b 4 8)).1≠0 then((cR ε.2 (dQ f.b 4 8)).1,(ε.1,(cR ε.2 (dQ f.b 4 8)).2)) else
  if ((cR ε.2 (dQ f.b 4 8)).2.2.eP f.bT f.b).1≠0 then(((cR ε.2 (dQ f.b 4 8)).2.2.eP f.bT f.b).1,(ε.1,((cR ε.2 (dQ f.b 4 8)).2.1,((cR ε.2 (dQ f.b 4 8)).2.2.eP f.bT f.b).2))) else
  (0,({ ε.1 with aj:=ε.1.aj.set i { f with changed:=false },eu:=cD f.bT (v7 ε.1 f.bT,false) ε.1.eu },((cR ε.2 (dQ f.b 4 8)).2.1,((cR ε.2 (dQ f.b 4 8)).2.2.eP f.bT f.b).2)))
section
variable {told:cu} {p:Nat} {v:V}
theorem abU (hT:W told){f:Fm}(s:Sat h (pt r (.cells 6 (sS p q dX π.aj.length wh di π.hand) false)::gj dX π.aj::K_ wh π.bY::Ov di π.eu::dH q p μ::bZ p δ::S))(hi:π.aj[i]?=some f)(vC:μ.Ok)(V1:δ.Ok)(mh:f.b.length<1073741824)(hw:δ.waiting.length<=268435456):
  Call ⟨Tryz.prog,told⟩ 147 [.ptr r 0,.ptr dX (i*5)] h λv h'=>v=.int .i64 (outF (π,μ,δ) i).1 /\
   Sat h' (pt r (.cells 6 (sS p q dX (outF (π,μ,δ) i).2.1.aj.length wh di (outF (π,μ,δ) i).2.1.hand) false)::gj dX (outF (π,μ,δ) i).2.1.aj::K_ wh (outF (π,μ,δ) i).2.1.bY::Ov di (outF (π,μ,δ) i).2.1.eu::dH q p (outF (π,μ,δ) i).2.2.1::bZ p (outF (π,μ,δ) i).2.2.2::S):=by
 have s00:=s
 obtain⟨pre,fv,post,I,hlen,s⟩:=kG (s.ae [1]) hi
 have X3:=(s.aC (k:=2) U (bp _ _))
 refine Call.of_wp (hT.free _ U) Tryz.func147 U U (zK 9 U (zf U (r7 _ _) (zl U (s.ld (k:=0) U bP (jV I U)) ?_)))
 refine zd U (aq U U aK) ?_ ?_
 .intro hq
  have hq:f.bT<0:=by simpa using hq
  have he:outF (π,μ,δ) i=(0,(π,μ,δ)):=by simp only[outF,hi];rw[ay (.inl hq)]
  rw[he]
  exact zk 13 U (WP.ret ⟨aa,_,U,U,s00⟩)
 .intro hq
  have hq:¬ f.bT<0:=by simpa using hq
  refine zk 3 U (zf U (HU _ _) (zl U (s.ld (k:=0) U sH (jV I U)) ?_))
  have SE:f.changed=false\/f.changed=true:=by cases f.changed<;>simp
  rcases SE with hc|hc
  .have he:outF (π,μ,δ) i=(0,(π,μ,δ)):=by simp only[outF,hi];rw[ay (.inr hc)]
   rw[he]
   refine zt U (eo U U) (by rw[hc];rfl) ?_
   exact zk 7 U (WP.ret ⟨aa,_,U,U,s00⟩)
  .have he:outF (π,μ,δ) i=(if cI f.b=false then(4,(π,μ,δ)) else
    if (cR (μ,δ) (dQ f.b 4 8)).1≠0 then((cR (μ,δ) (dQ f.b 4 8)).1,(π,(cR (μ,δ) (dQ f.b 4 8)).2)) else
    if ((cR (μ,δ) (dQ f.b 4 8)).2.2.eP f.bT f.b).1≠0 then(((cR (μ,δ) (dQ f.b 4 8)).2.2.eP f.bT f.b).1,(π,((cR (μ,δ) (dQ f.b 4 8)).2.1,((cR (μ,δ) (dQ f.b 4 8)).2.2.eP f.bT f.b).2))) else
    (0,({ π with aj:=π.aj.set i { f with changed:=false },eu:=cD f.bT (v7 π f.bT,false) π.eu },((cR (μ,δ) (dQ f.b 4 8)).2.1,((cR (μ,δ) (dQ f.b 4 8)).2.2.eP f.bT f.b).2)))):=by
    simp only[outF,hi];rw[ai (by rw[hc];simp;omega)]
   rw[he]
   refine zh U (eo U U) (by rw[hc];rfl) ?_
   refine zk 8 U (zf U (DH _ _) (zl U (s.ld (k:=0) U bS (jV I U)) (zc U (H6 hT (s.ae [2]) (bp _ _) (by omega)) ?_)))
   rintro w h ⟨s,(⟨hg,rfl⟩|⟨hg,rfl⟩)⟩
   .dsimp only[bringA,getA,aM] at s
    rw[ai (by rw[hg];decide)]
    have V2:(cR (μ,δ) (dQ f.b 4 8)).2.2.Ok:=vE V1
    have hxw:(cR (μ,δ) (dQ f.b 4 8)).2.2.waiting.length<=268435456:=by rw[Cb];exact hw
    have FN:=ZT (n:=dQ f.b 4 8) hT (s.ae [6,6]) vC V1.cV
    generalize cR (μ,δ) (dQ f.b 4 8)=x at FN V2 hxw ⊢
    obtain⟨xe,xl,xd⟩:=x
    dsimp only at FN V2 hxw ⊢
    refine zk 16 U (zC U aG (U) (zk 8 U (zY s 3 ZA VB U (zm U (zc U (FN) ?_)))))
    rintro w h ⟨rfl,s⟩
    refine zk 5 U ?_
    by_cases hx:xe=0
    .subst hx
     rw[ai (by decide)]
     refine zC U aG (U) ?_
     have F0:=λ(s:Sat h (bZ p xd::.b8 fv f.b::dH q p xl::pt dX (.cells (π.aj.length*5) (pre++(iC f fv++post)) false)::wO (pre++(iC f fv++post)) π.aj::pt r (.cells 6 (sS p q dX π.aj.length wh di π.hand) false)::K_ wh π.bY::Ov di π.eu::S))=>ZR (n:=f.bT) hT s (bp fv f.b) mh V2.cV hxw
     generalize xd.eP f.bT f.b=y at F0 ⊢
     obtain⟨ye,yd⟩:=y
     dsimp only at F0 ⊢
     have s:=s.ae [1,1,0]
     refine zk 5 U (WP.drawn [af,af,af,af,af,af,af,af,af,af,af,af,af,af] U (by kernel_rfl) (by kernel_rfl) ?_)
     refine zM U (zN U (zF U (DG _ _) (zL U (s.ld (k:=5) U yg U) (zM U (zN U (zF U (r7 _ _) (zL U (s.ld (k:=3) U bP (jV I U)) (zM U (zN U (zF U (DH _ _) (zL U (s.ld (k:=3) U bS (jV I U)) (aB.any U U U U (OpR.call U U U U (F0 s)) ?_))))))))))))
     rintro w h ⟨rfl,s⟩
     refine zA U ?_
     refine aB.nil ⟨⟨aa,aa,aa,aa,aa,aa,aa,aa,aa,aa,aa,aa,aa,aa,aa⟩,?_⟩
     refine zK 3 U ?_
     by_cases hy:ye=0
     .subst hy
      rw[ai (by decide)]
      refine zC U aG (U) (zk 7 U (zf U (HU _ _) (zS U (s.stM (k:=3) (j:=4) U BU I hlen (by simp[iC]) U U) ?_)))
      intro h s
      have e5:(iC f fv).set 4 (.bool false)=iC { f with changed:=false } fv:=rfl
      rw[e5] at s
      have s:=s.ae [7,3,4]
      refine zk 2 U (WP.drawn [af,af,af,af,af,af,af,af,af,af,af,af,af,af,af,af,af,af,af,af] U (by kernel_rfl) (by kernel_rfl) ?_)
      refine zM U (zN U (zF U (vZ _ _) (zL U (s.ld (k:=2) U DF U) (zM U (zN U (zF U (r7 _ _) (zL U (s.ld (k:=1) U bP (jV I U)) (zM U (zN U (zF U (vZ _ _) (zL U (s.ld (k:=2) U DF U) (zM U (zN U (zF U (r7 _ _) (zL U (s.ld (k:=1) U bP (jV I U)) ?_)))))))))))))))
      have Qw:∃b,gC Tryz.prog h 213 di (.int .i64 f.bT) false=some (.agg [.int .u64 (v7 π f.bT:Nat),.bool b]):=by
       rcases oh (f:=λv (x:Nat×Bool)=>.pu (v=.agg [.int .u64 (x.1:Int),.bool x.2])) (n:=f.bT) (λ_ _=>aI.pu _) s F7 b_ DJ with⟨g1,_,g3⟩|⟨u,x,g1,_,g3,s'⟩
       .exact⟨false,by rw[g3];simp only[v7,g1];rfl⟩
       .obtain⟨rfl,_⟩:=uA.1 s'
        exact⟨x.2,by rw[g3];simp only[v7,g1]⟩
      obtain⟨lb,Qw⟩:=Qw
      refine zO U (kM U U Qw) (zO U (ac3 U (ac5 (ZB _) U)) (zO U (cO U (by rw[adl];rfl)) ?_))
      refine aB.lJ U U U (OpR.mapUpdate U U U U (oB (f:=λv (x:Nat×Bool)=>.pu (v=.agg [.int .u64 (x.1:Int),.bool x.2])) (x:=(v7 π f.bT,false)) (λ_ _=>aI.pu _) (s.gJ U) F7 b_)) ?_
      intro w h s
      refine aB.nil ⟨⟨aa,aa,aa,aa,aa,aa,aa,aa,aa,aa,aa,aa,aa,aa,aa,aa,aa,aa,aa,aa,aa⟩,?_⟩
      refine zK 4 U (WP.ret ⟨aa,_,U,?_⟩)
      refine⟨U,?_⟩
      have s:=iK (i:=i) (f':={ f with changed:=false }) (s.ae [1,5,3]) U hi I
      have e6:(π.aj.set i { f with changed:=false }).length=π.aj.length:=cG
      rw[e6]
      exact s.ae [2,0,3,0,1,0]
     .rw[ay hy]
      refine zB U aG (by simp;exact hy) ?_
      refine zk 7 U (WP.ret ⟨aa,_,U,?_⟩)
      refine⟨U,?_⟩
      have s:=lT.2 ⟨_,s.ae [3,3]⟩
      exact(s.del 2).ae [3,0,2,2,1,0]
    .rw[ay hx]
     refine zB U aG (by simp;exact hx) ?_
     refine zk 7 U (WP.ret ⟨aa,_,U,?_⟩)
     refine⟨U,?_⟩
     have s:=lT.2 ⟨_,s.ae [3,3]⟩
     exact(s.del 3).ae [3,0,2,2,0,0]
   .dsimp only[bringA,getA,aM] at s
    rw[ay hg]
    refine zk 16 U (zB U aG (U) (zk 7 U (WP.ret ⟨aa,_,U,?_⟩)))
    refine⟨U,?_⟩
    have s:=lT.2 ⟨_,s.ae [1,1]⟩
    exact(s.del 1).ae [1,0]
end
structure ij (π cB:Pl): Prop where
 bY:cB.bY=π.bY
 eu:cB.eu=π.eu
 len:cB.aj.length=π.aj.length
 get:∀(i:Nat) (f:Fm),π.aj[i]?=some f->∃t,cB.aj[i]?=some { f with gV:=t }
theorem ij.refl (π:Pl): ij π π:=⟨U,U,U,λ_ f h=>⟨f.gV,h⟩⟩
theorem ij.trans {I:Pl}(a:ij π cB)(b:ij cB I): ij π I:=by
 refine⟨b.bY.trans a.bY,b.eu.trans a.eu,b.len.trans a.len,λi f h => ?_⟩;obtain⟨t,ht⟩:=a.get i f h;obtain⟨t',ht'⟩:=b.get i _ ht;exact⟨t',ht'⟩
theorem ij.hand : ij π { π with hand:=n }:=⟨U,U,U,λ_ f h=>⟨f.gV,h⟩⟩
theorem ij.ZW {f:Fm}(hi:π.aj[i]?=some f): ij π { π with aj:=π.aj.set i { f with gV:=false } }:=by
 refine⟨U,U,cG,λj g I => ?_⟩;by_cases h:i=j
 .subst h;rw[hi] at I;have:=bD I;subst this;have hl:=(List.getElem?_eq_some_iff.1 hi).1;exact⟨false,by simp[vH,hl]⟩
 .exact⟨g.gV,by simp only[vH,ai h];exact I⟩
theorem La {x:Operand}{b:Nat}(I:0<b): binV P h .rem t x y (.int .i64 (a:Int)) (.int .i64 (b:Int))=some (.int .i64 ((a%b:Nat):Int)):=by
 simp only[binV,ikBeq,ag,intV];have:intBeq (b:Int) 0=false:=by rw[sM];simp;omega
 rw[this,aT,Int.tmod_eq_emod_of_nonneg (by omega)];rfl
section
variable {told:cu} {p:Nat} {v:V} {m:List Fm}
theorem pU (hi:i<n): indexAddrV Tryz.prog 211 (.sl dX 0 n (.exact n)) (.int .i64 (i:Int))=some (.ptr dX (i*5)):=by
 rw[adh,show(decide ((0:Int)<=(i:Int))&&decide ((i:Int)<(n:Int)))=true by simp;omega,ag];simp
theorem Nh (I:W told){f:Fm}(s:Sat h S)(hv:storable v=true): Call ⟨Tryz.prog,told⟩ 198 [.agg (iC f v)] h λw h'=>w=.bool (decide (f.pins=0))/\Sat h' S:=by
 refine Call.of_wp (I.free _ U) Tryz.func198 U U (zg U (au.cj s U U U (fC U (by simp only[V.cells,iC,l_,mL,hv];rfl)) ?_));intro p1 h s;dsimp only[V.cells,iC] at s;exact zk 4 U (zY s 0 tN bP U (zb U dK (zk 2 U (WP.ret ⟨aa,_,U,U,s.drop⟩))))
theorem V3 (hT:W told){f:Fm}(s:Sat h (gj dX m::S))(h0:m[0]?=some f)(hp:f.pins=0): Call ⟨Tryz.prog,told⟩ 223 [.sl dX 0 m.length (.exact m.length),.fn (.func 198) [] []] h λw h'=>w=.int .i64 0/\Sat h' (gj dX m::S):=by
 have hl:=(List.getElem?_eq_some_iff.1 h0).1;obtain⟨pre,fv,post,I,hlen,s⟩:=kG s h0;have eG:=(s.aC (k:=2) U (bp _ _)).cells.2;refine Call.of_wp (hT.free _ U) Tryz.func223 U U (zK 8 U (zo U (aD U U U (tO U B2)) (zk 2 U (WP.block (WP.loop (zg U (zB U aK (by simp;omega) ?_)))))));refine zk 5 U (WP.block (zK 10 U (zo U (bM U U (pU (i:=0) hl)) (zl U (ldF s (k:=0) U adj FY I hlen) (zc U (Nh hT s eG) ?_)))));rintro w h ⟨rfl,s⟩;rw[dZ hp];exact zk 7 U (WP.ret ⟨aa,_,U,U,(lT.2 ⟨_,s⟩).del 1⟩)
theorem Ni (I:W told){f:Fm}(s:Sat h (gj dX m::S))(h0:m[0]?=some f)(hp:f.pins=0): Call ⟨Tryz.prog,told⟩ 197 [.sl dX 0 m.length (.exact m.length),.fn (.func 198) [] []] h λw h'=>w=.bool true/\Sat h' (gj dX m::S):=by
 refine Call.of_wp (I.free _ U) Tryz.func197 U U (zK 8 U (zc U (V3 I s h0 hp) ?_));rintro w h ⟨rfl,s⟩;refine zB U j6 (by decide) ?_;exact zk 2 U (WP.ret ⟨aa,_,U,U,s⟩)
noncomputable def fdA : Code:=dm [1,0,0,1,0,0] ((Tryz.f146.body).getD .skip)
noncomputable def fdB : Code:=dm [1,0,1,1,1,0,0] ((Tryz.f146.body).getD .skip)
theorem Nj {hand:Nat}: ∀(j i:Nat) (h:H) (E:List (Nat×V)) (Q:Ex->List (Nat×V)->H->Prop),i+j=m.length->m.length<4294967296 ->
  Sat h (pt r (.cells 6 (sS p q dX m.length wh di hand) false)::gj dX m::S)->Has E [(0,.ptr r 0),(10,.int .i64 m.length),(11,.int .i64 i)] ->
  (∀E' (i:Nat) (f:Fm),m[i]?=some f->f.bT<0->look E' 2=some (.int .i64 (i:Int))->Q .ret E' h) ->
  (∀E',Has E' [(0,.ptr r 0)]->Q (.exit 0) E' h)->WP ⟨Tryz.prog,told⟩ 70 (.loop fdA) E h Q:=by
 intro j;induction j with
 |zero =>
  intro i h E Q hi hm s hE hr hx;refine WP.loop (WP.has hE (zg U (zC U aK (by simp;omega) ?_)));exact zk 3 U (WP.exit (hx _ ⟨U,aa⟩))
 |succ j ih =>
  intro i h E Q hi hm s hE hr hx;have hc:m[i]?=some (m[i]'(by omega)):=aF _;generalize (m[i]'(by omega))=f at hc;obtain⟨pre,fv,post,I,hlen,s'⟩:=kG (s.ae [1]) hc;refine WP.loop (WP.has hE (zg U (zB U aK (by simp;omega) ?_)));refine zk 5 U (WP.block (zK 9 U (zY s 0 nV sK U (zm U (zo U (bM U U (pU (i:=i) (by omega))) ?_)))));refine zf U (r7 _ _) (zl U (s'.ld (k:=0) U bP (jV I U)) ?_);refine zd U (aq U U aK) ?_ ?_
  .intro hq;have hq:f.bT<0:=by simpa using hq
   exact zk 7 U (WP.ret (hr _ i f hc hq U))
  .intro hq;refine zv (zj U (WP.skip (zr U (zb U (by exact aL ak) ?_))));refine zm U (zv ?_);exact ih (i+1) h _ Q (by omega) hm s ⟨U,U,U,aa⟩ hr hx
def tV (m:List Fm): Nat:=(m.filter λf=>f.gV).length
theorem Ed {f:Fm}: ∀ {m:List Fm} {i:Nat},m[i]?=some f->f.gV=true->tV (m.set i { f with gV:=false })+1=tV m:=by
 intro m;induction m with
 |nil=>intro i h;simp at h
 |cons g m ih =>
  intro i h I;cases i with
  |zero=>simp at h;subst h;simp[tV,I]
  |succ i =>
   rw[oJ] at h;have:=ih h I;simp only[tV,List.set_cons_succ,List.filter_cons] at this ⊢;split<;>(try simp only[aW])<;>omega
theorem Gi {f:Fm}(hf:π.aj[π.hand]?=some f)(hm:π.aj.length<4294967296)(hp:f.pins=0)
 (s:Sat h (pt r (.cells 6 (sS p q dX π.aj.length wh di π.hand) false)::gj dX π.aj::S))(hE:Has E [(0,.ptr r 0)])
 (hr:f.gV=false->∀E' h',look E' 2=some (.int .i64 (π.hand:Int))->Sat h' (pt r (.cells 6 (sS p q dX π.aj.length wh di ((π.hand+1)%π.aj.length)) false)::gj dX π.aj::S)->Q .ret E' h')
 (hx:f.gV=true->∀E' h',Has E' [(0,.ptr r 0)]->Sat h' (pt r (.cells 6 (sS p q dX (π.aj.set π.hand { f with gV:=false }).length wh di ((π.hand+1)%π.aj.length)) false)::gj dX (π.aj.set π.hand { f with gV:=false })::S)->WP ⟨Tryz.prog,told⟩ 70 (.loop fdB) E' h' Q):
  WP ⟨Tryz.prog,told⟩ 70 (.loop fdB) E h Q:=by
 have hl:=(List.getElem?_eq_some_iff.1 hf).1
 refine WP.loop (WP.has hE (WP.block (zK 4 U (zY s 0 HS bP U (zk 6 U (zY s 0 nV sK U (zm U (zo U (bM U U (pU (i:=π.hand) hl)) (zk 3 U (WP.drawn [af,af,af,af,af,af,af,af,af,af,af,af,af,af,af] U (by kernel_rfl) (by kernel_rfl) ?_))))))))))
 refine zM U (zM U (zN U (zF U (HS _ _) (zL U (s.ld (k:=0) U bP U) (zO U (aq U U (by exact aL ak)) ?_)))))
 refine zM U (zN U (zF U (nV _ _) (zL U (s.ld (k:=0) U sK U) (zO U (aD U U U (tO U B2)) (zO U (aq U U (La (a:=π.hand+1) (by omega))) ?_)))))
 refine zN U (zF U (HS _ _) (aB.lJ U U U (OpR.yW U U U (s.kC (k:=0) U lQ U (by decide) U U)) ?_))
 rintro v h ⟨rfl,s⟩
 have s:Sat h (pt r (.cells 6 (sS p q dX π.aj.length wh di ((π.hand+1)%π.aj.length)) false)::gj dX π.aj::S):=s
 refine aB.nil ⟨⟨aa,aa,aa,aa,aa,aa,aa,aa,aa,aa,aa,aa,aa,aa,aa,aa⟩,?_⟩
 obtain⟨pre,fv,post,I,hlen,s⟩:=kG (s.ae [1]) hf
 refine zw (WP.block (zK 4 U (zf U (tN _ _) (zl U (s.ld (k:=0) U bP (jV I U)) (zC U cA (by rw[hp];decide) ?_)))))
 refine zk 7 U (zf U (HT _ _) (zl U (s.ld (k:=0) U sH (jV I U)) (zk 2 U ?_)))
 have I7:f.gV=false\/f.gV=true:=by cases f.gV<;>simp
 rcases I7 with ht|ht
 .refine WP.X8 U (ht) ?_
  refine zK 5 U (WP.ret (hr ht _ _ U ?_))
  have s:=lT.2 ⟨_,s.ae [0,0]⟩
  exact(s.del 1).ae [1,0]
 .skip
  refine WP.P6 U (ht) (zK 3 U (zf U (HT _ _) (zS U (s.stM (k:=0) (j:=3) U BU I hlen (by simp[iC]) U U) ?_)))
  intro h s
  have e5:(iC f fv).set 3 (.bool false)=iC { f with gV:=false } fv:=rfl
  rw[e5] at s
  refine zv (WP.exit (hx ht _ _ ⟨U,aa⟩ ?_))
  have s:=iK (i:=π.hand) (f':={ f with gV:=false }) s U hf I
  rw[cG]
  exact s.ae [1,0]
theorem Nk : ∀(fuel:Nat) (π:Pl) (h:H) (E:List (Nat×V)) (Q:Ex->List (Nat×V)->H->Prop),tV π.aj<=fuel->π.hand<π.aj.length->π.aj.length<4294967296->(∀f∈π.aj,f.pins=0) ->
  Sat h (pt r (.cells 6 (sS p q dX π.aj.length wh di π.hand) false)::gj dX π.aj::S)->Has E [(0,.ptr r 0)] ->
  (∀E' h' (i:Nat) (cB:Pl) (f:Fm),ij π cB->cB.aj[i]?=some f->cB.hand<cB.aj.length->look E' 2=some (.int .i64 (i:Int))->Sat h' (pt r (.cells 6 (sS p q dX cB.aj.length wh di cB.hand) false)::gj dX cB.aj::S)->Q .ret E' h') ->
  WP ⟨Tryz.prog,told⟩ 70 (.loop fdB) E h Q:=by
 intro fuel;induction fuel with
 |zero =>
  intro π h E Q ht hh hm hp s hE hr;have I:π.aj[π.hand]?=some (π.aj[π.hand]'hh):=aF _;generalize (π.aj[π.hand]'hh)=f at I;refine Gi I hm (hp f (aJ I)) s hE (λh1 E' h' h2 s' => ?_) (λh1 => ?_)
  .exact hr E' h' π.hand { π with hand:=(π.hand+1)%π.aj.length } f ij.hand I (Di _ (by omega)) h2 s'
  .have:=Ed I h1;omega
 |succ fuel ih =>
  intro π h E Q ht hh hm hp s hE hr;have I:π.aj[π.hand]?=some (π.aj[π.hand]'hh):=aF _;generalize (π.aj[π.hand]'hh)=f at I;refine Gi I hm (hp f (aJ I)) s hE (λh1 E' h' h2 s' => ?_) (λh1 E' h' dY s' => ?_)
  .exact hr E' h' π.hand { π with hand:=(π.hand+1)%π.aj.length } f ij.hand I (Di _ (by omega)) h2 s'
  .have uw:=Ed I h1;have hn:ij π { π with aj:=π.aj.set π.hand { f with gV:=false },hand:=(π.hand+1)%π.aj.length }:=(ij.ZW I).trans ij.hand;refine ih { π with aj:=π.aj.set π.hand { f with gV:=false },hand:=(π.hand+1)%π.aj.length } h' E' Q (by show tV (π.aj.set π.hand { f with gV:=false })<=fuel;omega) ?_ (by simp only[cG];exact hm) (λg hg => ?_) s' dY (λE2 h2 i cB g hn' hg hh2 hl s2=>hr E2 h2 i cB g (hn.trans hn') hg hh2 hl s2)
   .simp only[cG];exact Di _ (by omega)
   .rcases mI hg with hg|rfl
    .exact hp g hg
    .exact hp f (aJ I)
theorem V4 (hT:W told)(s:Sat h (pt r (.cells 6 (sS p q dX π.aj.length wh di π.hand) false)::gj dX π.aj::S))(hh:π.hand<π.aj.length)(hm:π.aj.length<4294967296)(hp:∀f∈π.aj,f.pins=0):
  Call ⟨Tryz.prog,told⟩ 146 [.ptr r 0] h λv h'=>∃(i:Nat) (cB:Pl) (f:Fm),v=.int .i64 (i:Int)/\ij π cB/\cB.aj[i]?=some f/\cB.hand<cB.aj.length /\
   Sat h' (pt r (.cells 6 (sS p q dX cB.aj.length wh di cB.hand) false)::gj dX cB.aj::S):=by
 have I:π.aj[0]?=some (π.aj[0]'(by omega)):=aF _;generalize (π.aj[0]'(by omega))=f0 at I;have s0:=s;refine Call.of_wp (hT.free _ U) Tryz.func146 U U (zK 4 U (WP.scope (zK 5 U (zY s 0 nV sK U (zo U (aD U U U (tO U B2)) (zk 2 U (WP.block ?_)))))));refine Nj π.aj.length 0 _ _ _ (by omega) hm s ⟨U,U,U,aa⟩ (λE' i f hf _ h2 => ?_) (λE' dY => ?_)
 .exact⟨aa,_,Aq h2,i,π,f,U,ij.refl π,hf,hh,s⟩
 .skip;refine WP.has dY (zK 5 U (zY s 0 nV sK U (zc U (Ni hT (s.ae [1]) I (hp f0 (aJ I))) ?_)));rintro w h ⟨rfl,s⟩;refine zo U (eo U U) (zk 4 U (WP.label (WP.block ?_)));refine Nk (tV π.aj) π _ _ _ (aH _) hh hm hp (s.ae [1,0]) ⟨U,aa⟩ (λE' h' i cB f hn hf hh2 h2 s' => ?_);exact⟨aa,_,Aq h2,i,cB,f,U,hn,hf,hh2,s'⟩
end
structure Pl.Ok (π:Pl): Prop where
 hand:π.hand<π.aj.length
 many:π.aj.length<=1024
 bY:∀e∈π.bY,0<=e.2/\e.2<π.aj.length
 len:∀f∈π.aj,f.b.length<=512
 pins:∀f∈π.aj,0<=f.pins/\f.pins<=4294967296
theorem Pl.Ok.at (h:π.Ok){n i:Int}(hl:lookL n π.bY=some i): ∃(k:Nat) (f:Fm),i=k/\π.aj[k]?=some f:=by
 have I:=h.bY _ (om hl);exact⟨i.toNat,π.aj[i.toNat]'(by omega),by omega,aF _⟩
def heldI (π:Pl)(n:Int): Option Nat:=match lookL n π.bY with
 |none=>none
 |some i=>match π.aj[i.toNat]? with
  |none=>none
  |some f=>if f.pins=0 then none else some i.toNat
def unpinF (π:Pl)(n:Int): Int×Pl:=match heldI π n with
 |none=>(18,π)
 |some i=>match π.aj[i]? with
  |none=>(18,π)
  |some f=>(0,{ π with aj:=π.aj.set i { f with pins:=f.pins-1 } })
def oG (π:Pl)(n:Int)(bj:Nat): Nat:=match lookL n π.eu with
 |some x=>x.1
 |none=>bj
def m_ (π:Pl)(n:Int)(b:List Nat)(bj:Nat): Int×Pl:=match heldI π n with
 |none=>(18,π)
 |some i=>match π.aj[i]? with
  |none=>(18,π)
  |some f=>if cI b=false then(4,π) else(0,{ π with aj:=π.aj.set i { f with b:=eV b bj,changed:=true },eu:=cD n (oG π n bj,true) π.eu })
section
variable {told:cu} {p:Nat} {v:V} {m:List Fm}
theorem Ow {n:Int}{j:Nat}(s:Sat h (K_ wh π.bY::S)): (lookL n π.bY=none/\gC Tryz.prog h 212 wh (.int .i64 n) true=some (.aX [.int .i64 0,.bool false])) \/
  ∃i,lookL n π.bY=some i/\gC Tryz.prog h 212 wh (.int .i64 n) true=some (.aX [.int .i64 i,.bool true]):=by
 grind[oh,aI.pu,Tryz.underlying212,Tryz.underlying3,BT,uA]
theorem Ox {n:Int}(s:Sat h (Ov di π.eu::S)): (lookL n π.eu=none/\gC Tryz.prog h 213 di (.int .i64 n) true=some (.aX [.agg [.int .u64 0,.bool false],.bool false])/\gC Tryz.prog h 213 di (.int .i64 n) false=some (.agg [.int .u64 0,.bool false])) \/
  ∃x,lookL n π.eu=some x/\gC Tryz.prog h 213 di (.int .i64 n) true=some (.aX [.agg [.int .u64 (x.1:Int),.bool x.2],.bool true])/\gC Tryz.prog h 213 di (.int .i64 n) false=some (.agg [.int .u64 (x.1:Int),.bool x.2]):=by
 grind[oh,aI.pu,Tryz.underlying213,Tryz.underlying3,DJ,uA]
theorem Oy (hT:W told){n:Int}(s:Sat h (pt r (.cells 6 (sS p q dX π.aj.length wh di π.hand) false)::gj dX π.aj::K_ wh π.bY::S))(JL:π.Ok):
  Call ⟨Tryz.prog,told⟩ 150 [.ptr r 0,.int .i64 n] h λv h'=>h'=h/\((heldI π n=none/\v=.aX [.cg,.int .i64 18])\/∃(i:Nat) (f:Fm),heldI π n=some i/\π.aj[i]?=some f/\v=.aX [.ptr dX (i*5),.int .i64 0]):=by
 refine Call.of_wp (hT.free _ U) Tryz.func150 U U (zK 9 U (zY s 0 y8 FX U (zm U ?_)));rcases Ow (n:=n) (j:=0) (s.ae [2]) with⟨g1,g2⟩|⟨i,g1,g2⟩
 .refine au.op U U U (kM U U g2) ?_;exact zk 10 U (zt U (eo U U) (U) (zk 18 U (WP.ret ⟨aa,_,U,U,.inl ⟨by simp only[heldI,g1],U⟩⟩)))
 .obtain⟨i,f,rfl,hf⟩:=JL.at g1;have hl:=(List.getElem?_eq_some_iff.1 hf).1;have hh:heldI π n=if f.pins=0 then none else some i:=by grind[heldI]
  obtain⟨pre,fv,post,I,hlen,s'⟩:=kG (s.ae [1]) hf;refine zo U (kM U U g2) (zk 10 U (zh U (eo U U) (U) (zk 3 U (zY s 0 nV sK U (zm U (zo U (bM U U (pU (i:=i) hl)) (zf U (tN _ _) (zl U (s'.ld (k:=0) U bP (jV I U)) ?_))))))));refine zd U (aq U U dK) ?_ ?_
  .intro hq;have hq:f.pins=0:=by grind
   exact zk 8 U (WP.ret ⟨aa,_,U,U,.inl ⟨by grind,U⟩⟩)
  .intro hq;have hq:f.pins≠0:=by grind
   exact zk 8 U (zY s 0 nV sK U (zm U (zo U (bM U U (pU (i:=i) hl)) (zk 3 U (WP.ret ⟨aa,_,U,U,.inr ⟨i,f,by grind,hf,U⟩⟩)))))
theorem Lb (hT:W told){n:Int}(s:Sat h (gG r p q π::S))(JL:π.Ok):
  Call ⟨Tryz.prog,told⟩ 65 [.ptr r 0,.int .i64 n] h λv h'=>v=.int .i64 (unpinF π n).1/\Sat h' (gG r p q (unpinF π n).2::S):=by
 have s0:=s;obtain⟨dX,wh,di,s⟩:=gW.1 s;refine Call.of_wp (hT.free _ U) Tryz.func65 U U (zK 8 U (zc U (Oy (n:=n) hT s JL) ?_));rintro v h' ⟨rfl,(⟨hh,rfl⟩|⟨i,f,hh,hf,rfl⟩)⟩
 .have he:unpinF π n=(18,π):=by simp only[unpinF,hh]
  rw[he];exact zk 10 U (zB U aG (U) (zk 7 U (WP.ret ⟨aa,_,U,U,s0⟩)))
 .have he:unpinF π n=(0,{ π with aj:=π.aj.set i { f with pins:=f.pins-1 } }):=by simp only[unpinF,hh,hf]
  rw[he];obtain⟨pre,fv,post,I,hlen,s⟩:=kG (s.ae [1]) hf;have Ia:=JL.pins f (aJ hf);refine zk 10 U (zC U aG (U) (zk 7 U (zf U (tN _ _) (zl U (s.ld (k:=0) U bP (jV I U)) (zb U (by exact dV ak) ?_)))));refine zn U (zf U (tN _ _) (zS U (s.stM (k:=0) (j:=2) U lQ I hlen (by simp[iC]) U U) ?_));intro h s;have e5:(iC f fv).set 2 (.int .i64 (f.pins-1))=iC { f with pins:=f.pins-1 } fv:=rfl;rw[e5] at s;refine zk 5 U (WP.ret ⟨aa,_,U,?_⟩);refine⟨U,gW.2 ⟨dX,wh,di,?_⟩⟩;have s:=iK (i:=i) (f':={ f with pins:=f.pins-1 }) s U hf I;rw[cG];exact s.ae [1,0]
theorem ZX (hT:W told){n:Int}(s:Sat h (gG r p q π::X::S))(hX:cC X (cK bv b))(JL:π.Ok)(hb:b.length<9223372036854775808):
  Call ⟨Tryz.prog,told⟩ 64 [.ptr r 0,.int .i64 n,bv,.int .u64 (bj:Int)] h λv h'=>v=.int .i64 (m_ π n b bj).1/\Sat h' (gG r p q (m_ π n b bj).2::X::S):=by
 have s0:=s
 obtain⟨dX,wh,di,s⟩:=gW.1 s
 refine Call.of_wp (hT.free _ U) Tryz.func64 U U (zK 8 U (zc U (Oy (n:=n) hT s JL) ?_))
 rintro v h' ⟨rfl,(⟨hh,rfl⟩|⟨i,f,hh,hf,rfl⟩)⟩
 .have he:m_ π n b bj=(18,π):=by simp only[m_,hh]
  rw[he]
  exact zk 10 U (zB U aG (U) (zk 7 U (WP.ret ⟨aa,_,U,U,s0⟩)))
 .have he:m_ π n b bj=(if cI b=false then(4,π) else(0,{ π with aj:=π.aj.set i { f with b:=eV b bj,changed:=true },eu:=cD n (oG π n bj,true) π.eu })):=by simp only[m_,hh,hf]
  rw[he]
  refine zk 10 U (zC U aG (U) (zk 7 U (zc U (ZN (n:=bj) hT (s.ae [4]) hX hb) ?_)))
  rintro v h (⟨hg,u,rfl,s⟩|⟨hg,rfl,s⟩)
  .rw[ai (by grind)]
   have oo:(eV b bj).length=512:=by
    grind[Ax,jy,eV,bG,cQ]
   obtain⟨lS,_,cap,_,rfl,_⟩:=s.eX (by omega)
   have s:=s.ff
   obtain⟨pre,fv,post,I,hlen,s⟩:=kG (s.ae [3]) hf
   refine zk 10 U (zC U aG (U) (zk 9 U (zf U (DH _ _) (zS U (s.stM (k:=0) (j:=1) U dP I hlen (by simp[iC]) U U) ?_))))
   intro h s
   refine zn U (zf U (HU _ _) (zS U (s.stM (k:=0) (j:=4) U BU I (by grind) (by simp[iC]) U U) ?_))
   intro h s
   have e5:((iC f fv).set 1 (.sl lS 0 (eV b bj).length cap)).set 4 (.bool true)=iC { f with b:=eV b bj,changed:=true } (.sl lS 0 (eV b bj).length cap):=rfl
   rw[e5] at s
   have s:=iK (i:=i) (f':={ f with b:=eV b bj,changed:=true }) (s.ae [0,0,1]) U hf I
   have s:=s.ae [3,4,0]
   refine zk 5 U (zY s 0 vZ DF U (zm U ?_))
   rcases Ox (n:=n) (s.ae [1]) with⟨g1,g2,_⟩|⟨x,g1,g2,_⟩
   .refine au.op U U U (kM U U g2) ?_
    refine zk 3 U ?_
    refine au.cj s U U U (cm DJ) (λEe h s => ?_)
    refine zS U (s.gZ (j:=0) U DI U U) (λh s => ?_)
    refine zk 6 U (zo U (eo U U) (zk 4 U (zf U (HV _ _) ?_)))
    refine zS U (by exact s.kC (k:=0) U P9 U (by decide) U U) (λh s => ?_)
    refine zk 3 U (zf U (Oe _ _) ?_)
    refine zS U (by exact s.kC (k:=0) U BU U (by decide) U U) (λh s => ?_)
    refine zk 2 U (WP.drawn [af,af,af,af,af,af,af] U (by kernel_rfl) (by kernel_rfl) ?_)
    refine zM U (zN U (zF U (vZ _ _) (zL U (s.ld (k:=1) U DF U) (zM U (zL U (s.b9 (k:=0) U Yb DI) (aB.lJ U U U (OpR.mapUpdate U U U U (oB (f:=λv (x:Nat×Bool)=>.pu (v=.agg [.int .u64 (x.1:Int),.bool x.2])) (x:=(bj,true)) (λ_ _=>aI.pu _) ((s.ae [2]).gJ U) F7 b_)) ?_))))))
    intro w h s
    refine aB.nil ⟨⟨aa,aa,aa,aa,aa,aa,aa,aa⟩,?_⟩
    refine zK 4 U (WP.ret ⟨aa,_,U,?_⟩)
    have ed:oG π n bj=bj:=by simp only[oG,g1]
    rw[ed]
    refine⟨U,gW.2 ⟨dX,wh,di,?_⟩⟩
    have e6:(π.aj.set i { f with b:=eV b bj,changed:=true }).length=π.aj.length:=cG
    show Sat h (pt r (.cells 6 (sS p q dX (π.aj.set i { f with b:=eV b bj,changed:=true }).length wh di π.hand) false)::_)
    rw[e6]
    exact((s.ae [2,2,4,0,2]).del 6).del 5
   .skip
    refine zo U (kM U U g2) (zk 3 U ?_)
    refine au.cj s U U U (cm DJ) (λEe h s => ?_)
    refine zS U (s.gZ (j:=0) U DI U U) (λh s => ?_)
    refine zk 6 U (zo U (eo U U) (zk 5 U (zf U (Oe _ _) ?_)))
    refine zS U (by exact s.kC (k:=0) U BU U (by decide) U U) (λh s => ?_)
    refine zk 2 U (WP.drawn [af,af,af,af,af,af,af] U (by kernel_rfl) (by kernel_rfl) ?_)
    refine zM U (zN U (zF U (vZ _ _) (zL U (s.ld (k:=1) U DF U) (zM U (zL U (s.b9 (k:=0) U Yb DI) (aB.lJ U U U (OpR.mapUpdate U U U U (oB (f:=λv (x:Nat×Bool)=>.pu (v=.agg [.int .u64 (x.1:Int),.bool x.2])) (x:=(x.1,true)) (λ_ _=>aI.pu _) ((s.ae [2]).gJ U) F7 b_)) ?_))))))
    intro w h s
    refine aB.nil ⟨⟨aa,aa,aa,aa,aa,aa,aa,aa⟩,?_⟩
    refine zK 4 U (WP.ret ⟨aa,_,U,?_⟩)
    have ed:oG π n bj=x.1:=by simp only[oG,g1]
    rw[ed]
    refine⟨U,gW.2 ⟨dX,wh,di,?_⟩⟩
    have e6:(π.aj.set i { f with b:=eV b bj,changed:=true }).length=π.aj.length:=cG
    show Sat h (pt r (.cells 6 (sS p q dX (π.aj.set i { f with b:=eV b bj,changed:=true }).length wh di π.hand) false)::_)
    rw[e6]
    exact((s.ae [2,2,4,0,2]).del 6).del 5
  .rw[ay hg]
   exact zk 10 U (zB U aG (U) (zk 7 U (WP.ret ⟨aa,_,U,U,gW.2 ⟨dX,wh,di,s.ae [1,1,1,1,0]⟩⟩)))
theorem abV (hT:W told){n:Int}(s:Sat h (gG r p q π::S)): Call ⟨Tryz.prog,told⟩ 138 [.ptr r 0,.int .i64 n] h λv h'=>v=.aX [.int .u64 (oG π n 0:Nat),.bool (lookL n π.eu).isSome]/\Sat h' (gG r p q π::S):=by
 obtain⟨dX,wh,di,s⟩:=gW.1 s;refine Call.of_wp (hT.free _ U) Tryz.func138 U U (zK 9 U (zY s 0 vZ DF U (zm U ?_)));rcases Ox (n:=n) (s.ae [3]) with⟨I,g2,_⟩|⟨x,I,g2,_⟩
 .refine au.op U U U (kM U U g2) ?_;refine zk 3 U ?_;refine au.cj s U U U (cm DJ) (λp6 h s => ?_);refine zS U (s.gZ (j:=0) U DI U U) (λh s => ?_);exact zk 4 U (zY s 0 HV sI U (zk 4 U (WP.ret ⟨aa,_,U,by simp only[oG,I];rfl,gW.2 ⟨dX,wh,di,s.drop⟩⟩)))
 .skip;refine zo U (kM U U g2) (zk 3 U ?_);refine au.cj s U U U (cm DJ) (λp6 h s => ?_);refine zS U (s.gZ (j:=0) U DI U U) (λh s => ?_);exact zk 4 U (zY s 0 HV sI U (zk 4 U (WP.ret ⟨aa,_,U,by simp only[oG,I];rfl,gW.2 ⟨dX,wh,di,s.drop⟩⟩)))
def gn : Fm:=⟨-1,[],0,false,false⟩
def eH (π:Pl)(i:Nat)(f:Fm): Pl:={ π with aj:=π.aj.set i gn,bY:=if f.bT<0 then π.bY else qC f.bT π.bY }
def kN (π:Pl)(i:Nat)(n:Int)(b:List Nat): Pl:={ π with aj:=π.aj.set i ⟨n,b,1,true,false⟩,bY:=cD n (i:Int) π.bY }
inductive ik (ε:bA)(n:Int): Int->List Nat->bA->Prop where
 |arg (h:¬(0<=n/\n<ε.2.2.bI.length)):ik ε n 1 [] ε
 |I8 (i:Nat) (f:Fm) (h1:0<=n) (h2:n<ε.2.2.bI.length) (hl:lookL n ε.1.bY=some (i:Int)) (hf:ε.1.aj[i]?=some f):ik ε n 0 f.b ({ ε.1 with aj:=ε.1.aj.set i { f with gV:=true,pins:=f.pins+1 } },ε.2)
 |out (cB:Pl) (i:Nat) (f:Fm) (h1:0<=n) (h2:n<ε.2.2.bI.length) (hl:lookL n ε.1.bY=none) (hn:ij ε.1 cB) (hf:cB.aj[i]?=some f) (hh:cB.hand<cB.aj.length) (he:(outF (cB,ε.2) i).1≠0):ik ε n (outF (cB,ε.2) i).1 [] (outF (cB,ε.2) i).2
 |read (cB:Pl) (i:Nat) (f:Fm) (h1:0<=n) (h2:n<ε.2.2.bI.length) (hl:lookL n ε.1.bY=none) (hn:ij ε.1 cB) (hf:cB.aj[i]?=some f) (hh:cB.hand<cB.aj.length) (he:(outF (cB,ε.2) i).1=0)
   (hr:(outF (cB,ε.2) i).2.2.2.uj n≠0):ik ε n ((outF (cB,ε.2) i).2.2.2.uj n) [] (eH (outF (cB,ε.2) i).2.1 i f,(outF (cB,ε.2) i).2.2)
 |bad (cB:Pl) (i:Nat) (f:Fm) (h1:0<=n) (h2:n<ε.2.2.bI.length) (hl:lookL n ε.1.bY=none) (hn:ij ε.1 cB) (hf:cB.aj[i]?=some f) (hh:cB.hand<cB.aj.length) (he:(outF (cB,ε.2) i).1=0)
   (hr:(outF (cB,ε.2) i).2.2.2.uj n=0) (hc:jJ ((outF (cB,ε.2) i).2.2.2.at n)≠0):ik ε n (jJ ((outF (cB,ε.2) i).2.2.2.at n)) [] (eH (outF (cB,ε.2) i).2.1 i f,(outF (cB,ε.2) i).2.2)
 |load (cB:Pl) (i:Nat) (f:Fm) (h1:0<=n) (h2:n<ε.2.2.bI.length) (hl:lookL n ε.1.bY=none) (hn:ij ε.1 cB) (hf:cB.aj[i]?=some f) (hh:cB.hand<cB.aj.length) (he:(outF (cB,ε.2) i).1=0)
   (hr:(outF (cB,ε.2) i).2.2.2.uj n=0) (hc:jJ ((outF (cB,ε.2) i).2.2.2.at n)=0):ik ε n 0 ((outF (cB,ε.2) i).2.2.2.at n) (kN (eH (outF (cB,ε.2) i).2.1 i f) i n ((outF (cB,ε.2) i).2.2.2.at n),(outF (cB,ε.2) i).2.2)
theorem EG (h:ε.2.2.Ok): (outF ε i).2.2.2.Ok:=by
 unfold outF;split
 .exact h
 .split
  .exact h
  .split
   .exact h
   .split
    .exact vE h
    .split
     .exact(vE h).eP
     .exact(vE h).eP
theorem V5 (h:ε.2.1.Ok): (outF ε i).2.2.1.Ok:=by
 grind[outF,Ng]
theorem qm {f:Fm}(I:ε.1.aj[i]?=some f): ∃c,(outF ε i).2.1.aj[i]?=some { f with changed:=c }:=by
 have hl:=(List.getElem?_eq_some_iff.1 I).1;unfold outF;rw[I];dsimp only;split
 .exact⟨f.changed,I⟩
 .split
  .exact⟨f.changed,I⟩
  .split
   .exact⟨f.changed,I⟩
   .split
    .exact⟨f.changed,I⟩
    simp_all
set_option maxHeartbeats 1000000 in
theorem S7 (hT:W told){n:Int}(s:Sat h (gG r p q π::dH q p μ::bZ p δ::S))(JL:π.Ok)(Ia:∀f∈π.aj,f.pins=0)(vC:μ.Ok)(V1:δ.Ok)(hw:δ.waiting.length<=268435456):
  Call ⟨Tryz.prog,told⟩ 63 [.ptr r 0,.int .i64 n] h λv h'=>∃(e:Int) (b:List Nat) (ε:bA),ik (π,μ,δ) n e b ε /\
   ((e≠0/\v=.aX [.aZ,.int .i64 e]/\Sat h' (gG r p q ε.1::dH q p ε.2.1::bZ p ε.2.2::S))\/(e=0/\∃u,v=.aX [u,.int .i64 0]/\Sat h' (bf u b::gG r p q ε.1::dH q p ε.2.1::bZ p ε.2.2::S))):=by
 have s0:=s
 obtain⟨dX,wh,di,s⟩:=gW.1 s
 refine Call.of_wp (hT.free _ U) Tryz.func63 U U (zK 9 U ?_)
 refine zd U (aq U U aK) ?_ ?_
 .intro hq
  have hq:n<0:=by grind
  exact zk 16 U (WP.ret ⟨aa,_,U,1,[],(π,μ,δ),.arg (λq=>by omega),.inl ⟨by decide,U,s0⟩⟩)
 .intro hq
  have hq:0<=n:=by grind
  refine zk 4 U (zY s 0 DG yg U (zc U (ED hT (s.ae [5])) ?_))
  rintro v h' ⟨rfl,rfl⟩
  refine zd U (aq U U j6) ?_ ?_
  .intro ju
   have ju:¬ n<δ.bI.length:=by grind
   exact zk 8 U (WP.ret ⟨aa,_,U,1,[],(π,μ,δ),.arg (λq=>ju q.2),.inl ⟨by decide,U,s0⟩⟩)
  .intro ju
   have ju:n<δ.bI.length:=by grind
   refine zk 9 U (zY s 0 y8 FX U (zm U ?_))
   rcases Ow (n:=n) (j:=0) (s.ae [2]) with⟨g1,g2⟩|⟨i,g1,g2⟩
   .refine au.op U U U (kM U U g2) ?_
    refine zk 15 U (zc U (V4 hT s JL.hand (by have:=JL.many;omega) Ia) ?_)
    rintro v h ⟨i,cB,f,rfl,sU,hf,hh,s⟩
    have hl:=(List.getElem?_eq_some_iff.1 hf).1
    rw[<-sU.bY,<-sU.eu] at s
    have hfb:f.b.length<=512:=by
     have h1:π.aj[i]?=some (π.aj[i]'(by have:=sU.len;omega)):=aF _
     generalize (π.aj[i]'(by grind))=f0 at h1
     obtain⟨t,ht⟩:=sU.get i f0 h1
     rw[hf] at ht
     have:=bD ht
     rw[this]
     exact JL.len f0 (aJ h1)
    refine zk 6 U (zC U aK (by rfl) ?_)
    refine zk 7 U (zY s 0 nV sK U (zm U (zo U (bM U U (pU (i:=i) hl)) (zk 7 U (zc U (abU (π:=cB) hT s hf vC V1 (by omega) hw) ?_)))))
    rintro v h ⟨rfl,s⟩
    obtain⟨c,u_⟩:=qm (ε:=(cB,μ,δ)) hf
    have Ib:=EG (ε:=(cB,μ,δ)) (i:=i) V1
    refine zk 5 U ?_
    by_cases he:(outF (cB,μ,δ) i).1=0
    .generalize ho:outF (cB,μ,δ) i=o at he s u_ Ib ⊢
     obtain⟨oe,I,μ1,Cd⟩:=o
     dsimp only at he s u_ Ib ⊢
     subst he
     have Ce:(outF (cB,μ,δ) i).1=0:=by rw[ho]
     have zE:(outF (cB,μ,δ) i).2=(I,μ1,Cd):=by rw[ho]
     refine zC U aG (by decide) ?_
     obtain⟨pre,fv,post,oZ,hlen,s⟩:=kG (s.ae [1]) u_
     refine zk 8 U (zf U (r7 _ _) (zl U (s.ld (k:=0) U bP (jV oZ U)) ?_))
     refine zd U (aq U U j6) ?_ ?_
     .intro eA
      have eA:¬ f.bT<0:=by grind
      refine zk 2 U (WP.drawn [af,af,af,af,af,af,af,af,af] U (by kernel_rfl) (by kernel_rfl) ?_)
      refine zM U (zN U (zF U (y8 _ _) (zL U (s.ld (k:=3) U FX U) (zM U (zN U (zF U (r7 _ _) (zL U (s.ld (k:=0) U bP (jV oZ U)) (aB.lJ U U U (OpR.delete U U U U (VL (s.ae [4]) F5 b_)) ?_))))))))
      intro v h s
      have s:=s.ae [1,1,1,1,0]
      refine aB.nil ⟨⟨aa,aa,aa,aa,aa,aa,aa,aa,aa,aa⟩,?_⟩
      refine zK 3 U (zo U (cO U (by rw[JY];rfl)) ?_)
      refine zn U (zS U (s.Yn (k:=0) (row':=iC gn .aZ) U FY oZ hlen (by rfl) U) ?_)
      intro h s
      have DN:(pre++(iC gn .aZ++post)).length=I.aj.length*5:=by simpa[iC] using hlen
      have uz:(eH I i f).bY=qC f.bT I.bY:=by grind[eH]
      refine zk 5 U (zY s 3 DG yg U (zm U (zc U (S6 (n:=n) hT (s.ae [7]) Ib) ?_)))
      rintro v h (⟨hr,rfl,s⟩|⟨hr,u,rfl,s⟩)
      .dsimp only[bringA,getA,aM] at s
       refine zk 10 U (zB U aG (by grind) ?_)
       refine zk 8 U (WP.ret ⟨aa,_,U,?_⟩)
       have s:=iK (i:=i) (f':=gn) (v':=.aZ) (s.ug.ae [2,2,0]) U u_ oZ
       have e6:(I.aj.set i gn).length=I.aj.length:=cG
       rw[<-e6,<-uz] at s
       have s:=(gW (π:=eH I i f)).2 ⟨dX,wh,di,s.ae [3,0,2,2]⟩
       have hR:=ik.read (ε:=(π,μ,δ)) cB i f hq ju g1 sU hf hh Ce (by grind)
       rw[zE] at hR
       exact⟨_,[],_,hR,.inl ⟨hr,U,(s.del 2).ae [0,1,0]⟩⟩
      .have adB:=Ib.at n
       obtain⟨lS,_,cap,_,rfl,_⟩:=s.eX (by omega)
       refine zk 10 U (zC U aG (U) (zk 7 U (zc U (K7 hT s (bh _ _) (by omega)) ?_)))
       rintro v h ⟨rfl,s⟩
       refine zk 5 U ?_
       by_cases hc:jJ (Cd.at n)=0
       .skip
        refine zC U aG (by grind) ?_
        have s:=s.ff.ae [2,2,0,2,2,2,2,0,0]
        refine zk 8 U (zo U (cO U (by rw[JY];rfl)) ?_)
        refine zn U (zS U (s.Yn (k:=0) (row':=iC ⟨n,Cd.at n,1,true,false⟩ (.sl lS 0 (Cd.at n).length cap)) U FY oZ DN (by rfl) U) ?_)
        intro h s
        refine zk 5 U (zY s 3 y8 FX U (zk 2 U (au.lJ U U (OpR.mapUpdate U U U U (oB (f:=λv (x:Int)=>.pu (v=.int .i64 x)) (x:=(i:Int)) (λ_ _=>aI.pu _) ((s.ae [4]).gJ U) F5 b_)) ?_)))
        intro w h s
        refine zk 4 U (zc U (Aw hT (s.ae [3]) (bp _ _) (by omega)) ?_)
        intro u h s
        refine zk 3 U (WP.ret ⟨aa,_,U,?_⟩)
        have s:=iK (i:=i) (f':=⟨n,Cd.at n,1,true,false⟩) (s.ae [3,3,1]) U u_ oZ
        have e6:(I.aj.set i ⟨n,Cd.at n,1,true,false⟩).length=I.aj.length:=cG
        have e7:(kN (eH I i f) i n (Cd.at n)).aj=I.aj.set i ⟨n,Cd.at n,1,true,false⟩:=by simp[kN,eH]
        rw[<-e6,<-e7,<-uz] at s
        have s:=(gW (π:=kN (eH I i f) i n (Cd.at n))).2 ⟨dX,wh,di,s.ae [3,0,1,1]⟩
        have hR:=ik.load (ε:=(π,μ,δ)) cB i f hq ju g1 sU hf hh Ce (by grind) (by grind)
        rw[zE] at hR
        exact⟨_,_,_,hR,.inr ⟨U,u,U,(s.del 4).ae [1,0]⟩⟩
       .skip
        refine zB U aG (by grind) ?_
        refine zk 8 U (WP.ret ⟨aa,_,U,?_⟩)
        have s:=s.drop
        have s:=iK (i:=i) (f':=gn) (v':=.aZ) (s.ug.ae [2,2,0]) U u_ oZ
        dsimp only[bringA,getA,aM] at s
        have e6:(I.aj.set i gn).length=I.aj.length:=cG
        rw[<-e6,<-uz] at s
        have s:=(gW (π:=eH I i f)).2 ⟨dX,wh,di,s.ae [3,0,2,2]⟩
        dsimp only[bringA,getA,aM] at s
        have hR:=ik.bad (ε:=(π,μ,δ)) cB i f hq ju g1 sU hf hh Ce (by grind) (by grind)
        rw[zE] at hR
        exact⟨_,[],_,hR,.inl ⟨hc,U,(s.del 2).ae [0,1,0]⟩⟩
     .intro eA
      have eA:f.bT<0:=by grind
      refine zk 6 U (zo U (cO U (by rw[JY];rfl)) ?_)
      refine zn U (zS U (s.Yn (k:=0) (row':=iC gn .aZ) U FY oZ hlen (by rfl) U) ?_)
      intro h s
      dsimp only[setA] at s
      have DN:(pre++(iC gn .aZ++post)).length=I.aj.length*5:=by simpa[iC] using hlen
      have uz:(eH I i f).bY=I.bY:=by grind[eH]
      refine zk 5 U (zY s 3 DG yg U (zm U (zc U (S6 (n:=n) hT (s.ae [7]) Ib) ?_)))
      rintro v h (⟨hr,rfl,s⟩|⟨hr,u,rfl,s⟩)
      .dsimp only[bringA,getA,aM] at s
       refine zk 10 U (zB U aG (by grind) ?_)
       refine zk 8 U (WP.ret ⟨aa,_,U,?_⟩)
       have s:=iK (i:=i) (f':=gn) (v':=.aZ) (s.ug.ae [2,2,0]) U u_ oZ
       dsimp only[bringA,getA,aM] at s
       have e6:(I.aj.set i gn).length=I.aj.length:=cG
       rw[<-e6,<-uz] at s
       have s:=(gW (π:=eH I i f)).2 ⟨dX,wh,di,s.ae [3,0,2,2]⟩
       dsimp only[bringA,getA,aM] at s
       have hR:=ik.read (ε:=(π,μ,δ)) cB i f hq ju g1 sU hf hh Ce (by grind)
       rw[zE] at hR
       exact⟨_,[],_,hR,.inl ⟨hr,U,(s.del 2).ae [0,1,0]⟩⟩
      .have adB:=Ib.at n
       obtain⟨lS,_,cap,_,rfl,_⟩:=s.eX (by omega)
       refine zk 10 U (zC U aG (U) (zk 7 U (zc U (K7 hT s (bh _ _) (by omega)) ?_)))
       rintro v h ⟨rfl,s⟩
       refine zk 5 U ?_
       by_cases hc:jJ (Cd.at n)=0
       .skip
        refine zC U aG (by grind) ?_
        have s:=s.ff.ae [2,2,0,2,2,2,2,0,0]
        dsimp only[bringA,getA,aM] at s
        refine zk 8 U (zo U (cO U (by rw[JY];rfl)) ?_)
        refine zn U (zS U (s.Yn (k:=0) (row':=iC ⟨n,Cd.at n,1,true,false⟩ (.sl lS 0 (Cd.at n).length cap)) U FY oZ DN (by rfl) U) ?_)
        intro h s
        dsimp only[setA] at s
        refine zk 5 U (zY s 3 y8 FX U (zk 2 U (au.lJ U U (OpR.mapUpdate U U U U (oB (f:=λv (x:Int)=>.pu (v=.int .i64 x)) (x:=(i:Int)) (λ_ _=>aI.pu _) ((s.ae [4]).gJ U) F5 b_)) ?_)))
        intro w h s
        dsimp only[bringA,getA,aM] at s
        refine zk 4 U (zc U (Aw hT (s.ae [3]) (bp _ _) (by omega)) ?_)
        intro u h s
        dsimp only[bringA,getA,aM] at s
        refine zk 3 U (WP.ret ⟨aa,_,U,?_⟩)
        have s:=iK (i:=i) (f':=⟨n,Cd.at n,1,true,false⟩) (s.ae [3,3,1]) U u_ oZ
        dsimp only[bringA,getA,aM] at s
        have e6:(I.aj.set i ⟨n,Cd.at n,1,true,false⟩).length=I.aj.length:=cG
        have e7:(kN (eH I i f) i n (Cd.at n)).aj=I.aj.set i ⟨n,Cd.at n,1,true,false⟩:=by simp[kN,eH]
        rw[<-e6,<-e7,<-uz] at s
        have s:=(gW (π:=kN (eH I i f) i n (Cd.at n))).2 ⟨dX,wh,di,s.ae [3,0,1,1]⟩
        dsimp only[bringA,getA,aM] at s
        have hR:=ik.load (ε:=(π,μ,δ)) cB i f hq ju g1 sU hf hh Ce (by grind) (by grind)
        rw[zE] at hR
        exact⟨_,_,_,hR,.inr ⟨U,u,U,(s.del 4).ae [1,0]⟩⟩
       .skip
        refine zB U aG (by grind) ?_
        refine zk 8 U (WP.ret ⟨aa,_,U,?_⟩)
        have s:=s.drop
        have s:=iK (i:=i) (f':=gn) (v':=.aZ) (s.ug.ae [2,2,0]) U u_ oZ
        dsimp only[bringA,getA,aM] at s
        have e6:(I.aj.set i gn).length=I.aj.length:=cG
        rw[<-e6,<-uz] at s
        have s:=(gW (π:=eH I i f)).2 ⟨dX,wh,di,s.ae [3,0,2,2]⟩
        dsimp only[bringA,getA,aM] at s
        have hR:=ik.bad (ε:=(π,μ,δ)) cB i f hq ju g1 sU hf hh Ce (by grind) (by grind)
        rw[zE] at hR
        exact⟨_,[],_,hR,.inl ⟨hc,U,(s.del 2).ae [0,1,0]⟩⟩
    .skip
     refine zB U aG (by grind) ?_
     exact zk 8 U (WP.ret ⟨aa,_,U,_,[],_,.out cB i f hq ju g1 sU hf hh he,.inl ⟨he,U,gW.2 ⟨dX,wh,di,s⟩⟩⟩)
   .obtain⟨i,f,rfl,hf⟩:=JL.at g1
    have hl:=(List.getElem?_eq_some_iff.1 hf).1
    obtain⟨pre,fv,post,oZ,hlen,s⟩:=kG (s.ae [1]) hf
    have rS:=Ia f (aJ hf)
    have mh:=JL.len f (aJ hf)
    refine zo U (kM U U g2) (zk 15 U (zY s 3 nV sK U (zm U (zo U (bM U U (pU (i:=i) hl)) (zk 6 U (zf U (HT _ _) (zS U (s.stM (k:=0) (j:=3) U BU oZ hlen (by simp[iC]) U U) ?_)))))))
    intro h s
    dsimp only[setA] at s
    refine zk 5 U (zf U (tN _ _) (zl U (s.ld (k:=0) U bP (jV oZ U)) (zb U (by exact aL ak) ?_)))
    refine zn U (zf U (tN _ _) (zS U (s.stM (k:=0) (j:=2) U lQ oZ (by grind) (by simp[iC]) U U) ?_))
    intro h s
    have e5:((iC f fv).set 3 (.bool true)).set 2 (.int .i64 (f.pins+1))=iC { f with gV:=true,pins:=f.pins+1 } fv:=rfl
    rw[e5] at s
    refine zk 5 U (zf U (DH _ _) (zl U (s.ld (k:=0) U bS (jV oZ U)) (zc U (Aw hT (s.ae [2]) (bp _ _) (by omega)) ?_)))
    intro u h s
    refine zk 3 U (WP.ret ⟨aa,_,U,?_⟩)
    have s:=iK (i:=i) (f':={ f with gV:=true,pins:=f.pins+1 }) (s.ae [2,2,1]) U hf oZ
    refine⟨0,f.b,_,.I8 i f hq ju g1 hf,.inr ⟨U,u,U,?_⟩⟩
    have e6:(π.aj.set i { f with gV:=true,pins:=f.pins+1 }).length=π.aj.length:=cG
    rw[<-e6] at s
    exact((gW (π:={ π with aj:=π.aj.set i { f with gV:=true,pins:=f.pins+1 } })).2 ⟨dX,wh,di,s.ae [2,0,1,1]⟩).ae [1,0]
end
def Gj : Fm:=⟨0,[],0,false,false⟩
def Pl.fresh (n:Nat): Pl:=⟨List.replicate n gn,[],[],0⟩
theorem ZY : ∃i,Tryz.prog.info? 218=some i/\i.size=5/\i.bytes=48 :=
 ⟨_,(show Tryz.prog.info? 218=some ((Tryz.prog.info? 218).getD default) by kernel_rfl),by kernel_rfl,by kernel_rfl⟩
theorem V6 {a b:PM}: ∀n:Nat,(wO (repeatL [.int .i64 0,.aZ,.int .i64 0,.bool false,.bool false] n) (List.replicate n Gj)).p a b:=by
 intro n;induction n with
 |zero=>trivial
 |succ n I=>exact⟨⟨⟨U,U,U,U⟩,⟨(by intro b hb;cases hb),.inl ⟨.inl U,U⟩⟩⟩,I⟩
section
variable {told:cu} {p:Nat} {v:V} {m:List Fm}
noncomputable def pnL : Code:=dm [1,1,1,0,1,0,0] ((Tryz.f105.body).getD .skip)
theorem S8 (hn:n<4294967296): ∀(j i:Nat) (m:List Fm) (h:H) (E:List (Nat×V)) (Q:Ex->List (Nat×V)->H->Prop),i+j=n->m=List.replicate i gn++List.replicate j Gj ->
  Sat h (pt r (.cells 6 (sS p q dX n wh di 0) false)::gj dX m::S)->Has E [(8,.ptr r 0),(28,.int .i64 n),(29,.int .i64 i)] ->
  (∀E' h',Has E' [(8,.ptr r 0)]->Sat h' (pt r (.cells 6 (sS p q dX n wh di 0) false)::gj dX (List.replicate n gn)::S)->Q (.exit 0) E' h')->WP ⟨Tryz.prog,told⟩ 41 (.loop pnL) E h Q:=by
 intro j;induction j with
 |zero =>
  intro i m h E Q hi hm s hE hx;refine WP.loop (WP.has hE (zg U (zC U aK (by simp<;>omega) ?_)));refine zk 3 U (WP.exit (hx _ _ ⟨U,aa⟩ ?_));rw[hm] at s;have:i=n:=by omega
  subst this;simpa using s
 |succ j ih =>
  intro i m h E Q hi hm s hE hx;have Gk:m.length=n:=by rw[hm];simp;omega
  have hf:m[i]?=some Gj:=by rw[hm,hU (by simp)];simp[Hh]
  obtain⟨pre,fv,post,I,hlen,s⟩:=kG (s.ae [1]) hf;dsimp only[bringA,getA,aM] at s;refine WP.loop (WP.has hE (zg U (zB U aK (by simp<;>omega) ?_)));refine zk 5 U (WP.block (zK 8 U (zY s 3 nV sK U (zm U (zo U (bM U U (pU (i:=i) (by omega))) ?_)))));refine zf U (r7 _ _) (zS U (s.stM (k:=0) (j:=0) U lQ I hlen (by simp[iC]) U U) ?_);intro h s;dsimp only[setA] at s;have e5:(iC Gj fv).set 0 (.int .i64 (-1))=iC gn fv:=rfl;rw[e5] at s;refine zv (zr U (zb U (by exact aL ak) ?_));refine zm U (zv ?_);have s:=iK (i:=i) (f':=gn) s U hf I;refine ih (i+1) (m.set i gn) h _ Q (by omega) ?_ (s.ae [1,0]) ⟨U,U,U,aa⟩ hx;rw[hm,G_ _ _ (by simp),gA,gK,Hh,List.set_cons_zero,List.replicate_succ',dN];rfl
theorem ZZ (hT:W told){n:Int}(s:Sat h S): Call ⟨Tryz.prog,told⟩ 105 [.ptr p 0,.ptr q 0,.int .i64 n] h λv h' =>
  (¬(1<=n/\n<=1024)/\v=.aX [.cg,.int .i64 1]/\Sat h' S)\/(1<=n/\n<=1024/\∃r,v=.aX [.ptr r 0,.int .i64 0]/\Sat h' (gG r p q (Pl.fresh n.toNat)::S)):=by
 refine Call.of_wp (hT.free _ U) Tryz.func105 U U (zK 9 U ?_);refine zd U (aq U U aK) ?_ ?_
 .intro hq;have hq:n<1:=by simpa using hq
  exact zk 11 U (WP.ret ⟨aa,_,U,.inl ⟨λq=>by omega,U,s⟩⟩)
 .intro hq;have hq:1<=n:=by simp at hq;omega
  refine zk 2 U ?_;refine zd U (aq U U cA) ?_ ?_
  .intro I;have I:1024<n:=by simpa using I
   exact zk 8 U (WP.ret ⟨aa,_,U,.inl ⟨λq=>by omega,U,s⟩⟩)
  .intro I;have I:n<=1024:=by simp at I;omega
   obtain⟨n,rfl⟩:∃k:Nat,n=k:=⟨n.toNat,by omega⟩;refine zk 9 U ?_;obtain⟨i1,c9,fH,pR⟩:=ZY;obtain⟨id,h1,e1,s1⟩:=I1 (P:=Tryz.prog) s B2 c9 adk fH (by omega) U (by decide) (n:=n) (by omega);refine au.any U U U (OpR.of (R:=λv h'=>v=.sl id 0 n (.exact n)/\h'=h1) (Al U U e1) ⟨U,U⟩) ?_;rintro v h ⟨rfl,rfl⟩;have s:Sat h (gj id (List.replicate n Gj)::S):=lT.2 ⟨_,by rw[gA];exact((s1.gJ (φ:=True) aa).dM λa b _=>V6 n).ae [1]⟩;refine au.BS s U U U U (λp20 h s => ?_);refine au.BS s U U U U (λp21 h s => ?_);refine zo U (cO U (by rw[adi];rfl)) ?_;refine au.cj s U U U (fC U U) (λp23 h s => ?_);refine zk 7 U (zY s 0 nV sK U (zo U (aD U U U (tO U B2)) (zk 2 U (WP.block ?_))));have s:=ri (f:=λv (x:Nat×Bool)=>.pu (v=.agg [.int .u64 (x.1:Int),.bool x.2])) (s.ae [1]);have s:=ri (f:=λv (x:Int)=>.pu (v=.int .i64 x)) (s.ae [2]);have s:=s.ae [2,2,0,0];refine S8 (n:=n) (by omega) n 0 _ _ _ _ (by omega) U s ⟨U,U,U,aa⟩ (λE' h' dY s' => ?_);refine WP.has dY (zK 6 U (WP.ret ⟨aa,_,U,?_⟩));refine .inr ⟨hq,I,_,U,(gW (π:=Pl.fresh n)).2 ⟨id,.map p20,.map p21,?_⟩⟩;have e6:(Pl.fresh n).aj.length=n:=by simp[Pl.fresh]
   rw[e6];exact s'
end
theorem S9 {c:Nat}: ∀ {l:jq} {b:Nat},sN c b l->bornUp c b (l.map SF)=true:=by
 intro l;induction l with
 |nil=>intro b _;rfl
 |cons e l I =>
  intro b h;obtain⟨h1,h2,h3⟩:=h;simp only[gB,SF,B1,bornUp];rw[show(Nat.ble b e.2.2&&Nat.blt e.2.2 c)=true by rw[bV,aS];exact⟨h1,by rw[Nat.blt];exact aS.2 h2⟩,ag];exact I h3
theorem Qx : ∀ {l:jq},(∀e∈l,(Lit.int .i64 e.1).wf=true)->keyInts (l.map SF)=some (l.map (·.1)):=by
 intro l;induction l with
 |nil=>intro _;rfl
 |cons e l I =>
  intro h;simp only[gB,SF,B1,keyInts];rw[h e a_,ag];have:=I (λe he=>h e (bk _ he));rw[this]
theorem Nl {x:Int}: ∀ {l:List Int},l.Pairwise (· < ·)->x∉l->(insI x l).Pairwise (· < ·):=by
 intro l;induction l with
 |nil=>intro _ _;simp[insI]
 |cons y l ih =>
  intro h hx;simp only[yE,gd,not_or] at h hx;simp only[insI];by_cases S_:x<=y
  .rw[dZ S_,ag];have:x<y:=by omega
   simp only[yE,gd];refine⟨λz I => ?_,h⟩;rcases I with rfl|I
   .exact this
   .have:=h.1 z I;omega
  .rw[f_ S_,aT];simp only[yE];refine⟨λz I => ?_,ih h.2 hx.2⟩;have:=(BK x l).mem_iff.1 I;rcases List.mem_cons.1 this with rfl|I
   .omega
   .exact h.1 z I
theorem Nm : ∀ {l:List Int},l.Nodup->(oX l).Pairwise (· < ·):=by
 intro l;induction l with
 |nil=>intro _;exact List.Pairwise.nil
 |cons x l I =>
  intro h;simp only[oO] at h;exact Nl (I h.2) (λhx=>h.1 ((iI l).mem_iff.1 hx))
theorem V7 : ∀ {l:List Int},l.Pairwise (· < ·)->uy l=true:=by
 intro l;induction l with
 |nil=>intro _;rfl
 |cons x l I =>
  intro h;simp only[yE] at h;simp only[uy,bV,nG,ke];exact⟨h.1,I h.2⟩
section
variable {f:V->α->aE} {told:cu} {mv:V} {m:List (Int×α)} {b:Nat}
def gp (m:List (Int×α)): List Int:=oX (m.map (·.1))
theorem r_ {n:Int}: n∈gp m↔n∈m.map (·.1):=(iI _).mem_iff
theorem V8 (l:List Int): (jB l).all storable=true:=by simp[jB,storable]
theorem Cf (hT:W told)(s:Sat h (pt b (.cells 1 [mv] false)::pQ f mv m::S))(hg:z_ DL g=true)(hm:m.length<=1048576)(hk:∀n∈m.map (·.1),(Lit.int .i64 n).wf=true):
  Call ⟨Tryz.prog,told⟩ 61 [.fn (.func g) [] [.ptr b 0]] h λv h'=>Sat h' (.arr 1 v (jB (gp m))::pt b (.cells 1 [mv] false)::pQ f mv m::S):=by
 obtain⟨id,l,c,rfl,hb,hn,s1⟩:=xB.1 (s.ae [1]);have s1:Sat h (KP id l c::jE f l m::pt b (.cells 1 [.map id] false)::S):=s1;obtain⟨q1,q2,q3,q4,q5⟩:=s1.at (k:=1) U;have I:=F4 q5;have hlen:l.length=m.length:=by have:=dg List.length I;simpa using this
 have pK:=s1.row (k:=0) U;have aeG:=s1.row (k:=2) U;have o9:∀e∈l,(Lit.int .i64 e.1).wf=true:=λe he=>hk e.1 (by rw[<-I];exact oK he);have hri:uy (oX (l.map (·.1)))=true:=V7 (Nm (by rw[I];exact hn));have adC:∃v h',toldSorted DL [.fn (.func g) [] [.ptr b 0]] h=some (v,h')/\Sat h' (.arr 1 v (jB (gp m))::pt b (.cells 1 [.map id] false)::pQ f (.map id) m::S):=by
  simp only[toldSorted,aeG,pK,cf,hg,S9 hb,Qx o9,hri];rw[show(Nat.beq 1 1&&true&&true&&Nat.ble l.length 1048576)=true by rw[aS.2 (by omega)];rfl,ag];simp only[ag];cases hl:l.map (·.1) with
  |nil =>
   refine⟨_,_,U,?_⟩;have:gp m=[]:=by rw[gp,<-I,hl];rfl
   rw[this];exact s.mq
  |cons x xs =>
   refine⟨_,_,U,?_⟩;have e1:gp m=oX (x::xs):=by rw[gp,<-I,hl]
   have e2:(oX (x::xs)).length=(x::xs).length:=(iI _).length_eq;have e3:(x::xs).length=l.length:=by rw[<-hl,cf]
   rw[e1,<-e3];refine(s.new (.cells (jB (oX (x::xs))).length (jB (oX (x::xs))) false)).dM λa r Ea=>⟨V8 _,.inr ⟨h.next,(x::xs).length,.rest 1 0,(jB (oX (x::xs))).length,[],U,?_,?_,by simp,U,U,U,U,by simp⟩⟩
   .rw[fZ];exact Ea
   .simp only[jB,cf,e2,cH]
 obtain⟨v,h',e1,e2⟩:=adC;exact⟨v,h',iS.told hT.sorted Tryz.func61 U e1,e2⟩
end
structure Cg (ε:bA): Prop where
 pl:ε.1.Ok
 lg:ε.2.1.Ok
 dk:ε.2.2.Ok
theorem V9 (h:ε.1.Ok): (outF ε i).2.1.Ok:=by
 unfold outF;split
 .exact h
 .rename_i f hf;have hm:=aJ hf;split
  .exact h
  .split
   .exact h
   .split
    .exact h
    .split
     .exact h
     .refine⟨by simp only[cG];exact h.hand,by simp only[cG];exact h.many,λe he=>by simp only[cG];exact h.bY e he,λg I => ?_,λg I => ?_⟩
      .rcases mI I with I|rfl
       .exact h.len g I
       .exact h.len f hm
      .rcases mI I with I|rfl
       .exact h.pins g I
       .exact h.pins f hm
theorem Az (h:Cg ε): Cg (outF ε i).2:=⟨V9 h.pl,V5 h.lg,EG h.dk⟩
theorem Nn {n:Int}: (δ.eP n b).2.waiting.length<=δ.waiting.length+1:=by
 unfold Dk.eP;split
 .exact rN _
 .split
  .exact rN _
  .split
   .exact rN _
   .exact Nat.le_of_eq (by simp[Dk.wr])
end Go.Proofs.YtdonpgpfplgigaaGreat.Am
namespace Go.Proofs.YtdonpgpfplgigaaGreat.Am
open Go
variable {X:aE} {C:gO} {δ:Dk} {ε ah:bA} {Q:Ex->List (Nat×V)->H->Prop} {h:H} {kd pg:Int} {μ:Lg} {now:List (Int×List Nat)} {E:List (Nat×V)} {S:List aE} {dG:List fT} {l b data:List Nat} {cs post args:List V} {g n k i size bj a d z p6 id off q j tx pv nx j1 j2 p1 r dX aR:Nat} {y:Operand} {π cB:Pl} {P:Program} {α:Type} {t e:TypeId} {x u bv dt w v' wh di:V}
open Classical in
noncomputable def qR (P:Program)(f:FuncId)(mC:List V->H->V×H->Prop)(args:List V)(h:H): Option (V×H) :=
 if I:∃r,mC args h r/\∀(c:Ctx) (w:World),Rel c h w->(∀x∈args,wf c x)->kK P f args c w r.1 r.2 then some I.choose else none
theorem Ta {f : FuncId} {mC : List V → H → V × H → Prop} (I : ∃ fn, P.funcs[f]? = some fn ∧ fn.body.isSome = true ∧ (fn.name == "runtime.NumGoroutine") = false) : NL P f (qR P f mC) := by
 refine .inl ⟨I, fun args σ v fb hr c w h hw => ?_⟩
 unfold qR at hr
 split at hr
 ·rename_i hx
  have := hx.choose_spec.2 c w h hw
  injection hr with hr
  rw [hr] at this
  exact this
 ·cases hr
theorem xD {f:FuncId}{mC:List V->H->V×H->Prop}{r:V×H}(h1:mC args h r)(h2:∀(c:Ctx) (w:World),Rel c h w->(∀x∈args,wf c x)->kK P f args c w r.1 r.2):
  ∃r,qR P f mC args h=some r/\mC args h r:=by
 have I:∃r,mC args h r/\∀(c:Ctx) (w:World),Rel c h w->(∀x∈args,wf c x)->kK P f args c w r.1 r.2:=⟨r,h1,h2⟩;refine⟨I.choose,?_,I.choose_spec.1⟩;unfold qR;rw[dif_pos I]
noncomputable def uk (f:Nat): Option (List V->H->Option (V×H)) :=
 cond (Nat.beq f 61) (some (toldSorted DL)) (cond (Nat.beq f 211) (some toldMore) none)
noncomputable abbrev CB : gO:=⟨Tryz.prog,uk⟩
theorem Ci : Tryz.prog.follows .mixedOrders=true:=by kernel_rfl
theorem AA : iR CB:=by
 intro f g I;simp only[CB,uk] at I ⊢;by_cases h1:f=61
 .subst h1;rw[qW U,ag] at I;simp only[aA] at I;subst I;exact .inl ⟨⟨_,Tryz.func61,U,by decide⟩,λargs σ v fb hr c w h _=>JI b_ SK hr h⟩
 .rw[fM h1,aT] at I;by_cases h2:f=211
  .subst h2;rw[qW U,ag] at I;simp only[aA] at I;subst I;exact .inl ⟨⟨_,FE,U,by decide⟩,λargs σ v fb hr c w h hw=>M9 (C:=CB) U Ci hr h hw⟩
  .rw[fM h2,aT] at I;cases I
theorem W.base : W uk:=by
 refine⟨λf I => ?_,U,U⟩;have h1:f≠61:=λe=>by subst e;revert I;decide
 have h2:f≠211:=λe=>by subst e;revert I;decide
 simp only[uk,fM h1,fM h2,aT]
theorem iS.det {f:FuncId}{v:V}{h₁ I:H}(a:iS C f args h v h₁)(b:iS C f args h v' I): v=v'/\h₁=I:=by
 obtain⟨N,hN⟩:=a;obtain⟨M,hM⟩:=b;have e1:=sC (iN (rI N M)) hN;have e2:=sC (iN (rH N M)) hM;rw[e1] at e2;simp only[aA,bW] at e2;exact e2
theorem ij.aj (I:ij π cB): ∀g∈cB.aj,∃f∈π.aj,∃t,g={ f with gV:=t }:=by
 intro g hg;obtain⟨i,hi,rfl⟩:=List.mem_iff_getElem.1 hg;have hf:π.aj[i]?=some (π.aj[i]'(by rw[<-I.len];exact hi)):=aF _;obtain⟨t,ht⟩:=I.get i _ hf;rw[aF hi] at ht;exact⟨_,C7 _,t,bD ht⟩
theorem ij.ok (I:ij π cB)(h:π.Ok)(hh:cB.hand<cB.aj.length): cB.Ok:=by
 refine⟨hh,by rw[I.len];exact h.many,by rw[I.bY,I.len];exact h.bY,λg hg => ?_,λg hg => ?_⟩
 .obtain⟨f,hf,t,rfl⟩:=I.aj g hg;exact h.len f hf
 .obtain⟨f,hf,t,rfl⟩:=I.aj g hg;exact h.pins f hf
theorem Pl.Ok.set {f:Fm}{w:List (Int×Int)}{d:List (Int×(Nat×Bool))}(h:π.Ok)(hw:∀e∈w,0<=e.2/\e.2<π.aj.length)(hl:f.b.length<=512)(hp:0<=f.pins/\f.pins<=4294967296): Pl.Ok { π with aj:=π.aj.set i f,bY:=w,eu:=d }:=by
 refine⟨by simp only[cG];exact h.hand,by simp only[cG];exact h.many,λe he=>by simp only[cG];exact hw e he,λg I => ?_,λg I => ?_⟩
 .rcases mI I with I|rfl
  .exact h.len g I
  .exact hl
 .rcases mI I with I|rfl
  .exact h.pins g I
  .exact hp
theorem Z0 {n:Int}: ∀ {l:List (Int×α)} {e:Int×α},e∈qC n l->e∈l:=by
 intro l;induction l with
 |nil=>intro e h;exact h
 |cons x l I =>
  intro e h;simp only[qC] at h;split at h
  .exact bk _ h
  .rcases List.mem_cons.1 h with rfl|h
   .exact a_
   .exact bk _ (I h)
theorem Z1 {n:Int}{x:α}: ∀ {l:List (Int×α)} {e:Int×α},e∈cD n x l->e=(n,x)\/e∈l:=by
 intro l;induction l with
 |nil=>intro e h;simp only[cD,Hi] at h;exact .inl h
 |cons y l I =>
  intro e h;simp only[cD] at h;split at h
  .rcases List.mem_cons.1 h with rfl|h
   .exact .inl U
   .exact .inr (bk _ h)
  .rcases List.mem_cons.1 h with rfl|h
   .exact .inr a_
   .rcases I h with h|h
    .exact .inl h
    .exact .inr (bk _ h)
theorem EH {f:Fm}(h:π.Ok): (eH π i f).Ok:=by
 unfold eH;refine h.set (λe he => ?_) (by simp[gn]) (by simp[gn]);split at he
 .exact h.bY e he
 .exact h.bY e (Z0 he)
theorem ik.ok {n e:Int}(hr:ik ε n e b ah)(h:Cg ε)(hp:∀f∈ε.1.aj,f.pins=0): Cg ah:=by
 cases hr with
 |arg _=>exact h
 |I8 i f h1 h2 hl hf =>
  have hm:=aJ hf;exact⟨h.pl.set h.pl.bY (h.pl.len f hm) (by have:=hp f hm;simp only;omega),h.lg,h.dk⟩
 |out cB i f h1 h2 hl I hf hh he=>exact Az (ε:=(cB,ε.2)) ⟨I.ok h.pl hh,h.lg,h.dk⟩
 |read cB i f h1 h2 hl I hf hh he hr =>
  have:=Az (i:=i) (ε:=(cB,ε.2)) ⟨I.ok h.pl hh,h.lg,h.dk⟩;exact⟨EH this.pl,this.lg,this.dk⟩
 |bad cB i f h1 h2 hl I hf hh he hr hc =>
  have:=Az (i:=i) (ε:=(cB,ε.2)) ⟨I.ok h.pl hh,h.lg,h.dk⟩;exact⟨EH this.pl,this.lg,this.dk⟩
 |load cB i f h1 h2 hl I hf hh he hr hc =>
  have:=Az (i:=i) (ε:=(cB,ε.2)) ⟨I.ok h.pl hh,h.lg,h.dk⟩;have h3:=EH (i:=i) (f:=f) this.pl;have hlen:i<(eH (outF (cB,ε.2) i).2.1 i f).aj.length:=by
   obtain⟨c,hc⟩:=qm (ε:=(cB,ε.2)) hf;have:=(List.getElem?_eq_some_iff.1 hc).1;simpa[eH] using this
  refine⟨h3.set (λe he => ?_) (by simp only;rw[this.dk.at];omega) (by simp),this.lg,this.dk⟩;rcases Z1 he with rfl|he
  .simp only;omega
  .exact h3.bY e he
theorem I9 {n:Int}(h:π.Ok): (unpinF π n).2.Ok:=by
 unfold unpinF;split
 .exact h
 .rename_i i hi;split
  .exact h
  .rename_i f I;have hm:=aJ I;refine h.set h.bY (h.len f hm) ?_;have:=h.pins f hm;have fG:f.pins≠0:=by
    unfold heldI at hi;split at hi
    .cases hi
    .split at hi
     .cases hi
     .rename_i g hg;split at hi
      .cases hi
      .rename_i hp;have:=bD hi;subst this;rw[hg] at I;have:=bD I;subst this;exact hp
   simp only;omega
inductive pq (ε:bA)(n:Int): Int->List Nat->bA->Prop where
 |dead (h:ε.2.2.dead=true):pq ε n 9 [] ε
 |mC (e:Int) (b:List Nat) (ah:bA) (h:ε.2.2.dead=false) (hr:ik ε n e b ah) (he:e≠0):pq ε n e [] ah
 |AB (b:List Nat) (ah:bA) (h:ε.2.2.dead=false) (hr:ik ε n 0 b ah) (he:(unpinF ah.1 n).1≠0):pq ε n (unpinF ah.1 n).1 [] ((unpinF ah.1 n).2,ah.2)
 |read (b:List Nat) (ah:bA) (h:ε.2.2.dead=false) (hr:ik ε n 0 b ah) (he:(unpinF ah.1 n).1=0):pq ε n 0 b ((unpinF ah.1 n).2,ah.2)
theorem pq.ok {n e:Int}(hr:pq ε n e b ah)(h:Cg ε)(I:∀f∈ε.1.aj,f.pins=0): Cg ah:=by
 cases hr with
 |dead _=>exact h
 |mC e b ah hd hr he=>exact hr.ok h I
 |AB b ah hd hr he=>have:=hr.ok h I;exact⟨I9 this.pl,this.lg,this.dk⟩
 |read b ah hd hr he=>have:=hr.ok h I;exact⟨I9 this.pl,this.lg,this.dk⟩
def Oz (a p q r:Nat)(op dv:V)(aR:Nat): List V:=[.ptr p 0,.ptr q 0,.ptr r 0,op,dv,.int .u64 (aR:Int)]
def gH (a p q r:Nat)(op:V)(data:List Nat)(aR:Nat): aE:=xs λdv:V=>star [pt a (.cells 6 (Oz a p q r op dv aR) false),.b8 dv data]
def iy (g a:Nat)(now:List (Int×List Nat))(cF:Bool): aE:=xs λI:V=>star [pt g (.cells 3 [.ptr a 0,I,.bool cF] false),pQ (λv b=>.b8 v b) I now]
section
variable {told:cu} {p:Nat} {op v:V} {m:List Fm} {cF:Bool}
theorem eM : Sat h (gH a p q r op data aR::S)↔∃dv,Sat h (pt a (.cells 6 (Oz a p q r op dv aR) false)::.b8 dv data::S):=by
 simp only[gH,jv,cY,fJ,dL]
theorem fW : Sat h (iy g a now cF::S)↔∃I,Sat h (pt g (.cells 3 [.ptr a 0,I,.bool cF] false)::pQ (λv b=>.b8 v b) I now::S):=by
 simp only[iy,jv,cY,fJ,dL]
theorem EJ (hT:W told){n:Int}(s:Sat h (gH a p q r op data aR::gG r p q π::dH q p μ::bZ p δ::S))(I:Cg (π,μ,δ))(Ia:∀f∈π.aj,f.pins=0)(hw:δ.waiting.length<=268435456):
  Call ⟨Tryz.prog,told⟩ 137 [.ptr a 0,.int .i64 n] h λv h'=>∃(e:Int) (b:List Nat) (ε:bA),pq (π,μ,δ) n e b ε /\
   ((e≠0/\v=.aX [.aZ,.int .i64 e]/\Sat h' (gH a p q r op data aR::gG r p q ε.1::dH q p ε.2.1::bZ p ε.2.2::S)) \/
    (e=0/\∃u,v=.aX [u,.int .i64 0]/\Sat h' (bf u b::gH a p q r op data aR::gG r p q ε.1::dH q p ε.2.1::bZ p ε.2.2::S))):=by
 have s0:=s;obtain⟨dv,s⟩:=eM.1 s;refine Call.of_wp (hT.free _ U) Tryz.func137 U U (zK 10 U (zY s 0 DB yg U (zc U (K1 hT (s.ae [4])) ?_)));rintro v h ⟨rfl,rfl⟩;refine zv ?_;cases hd:δ.dead with
 |true =>
  exact zK 6 U (WP.ret ⟨aa,_,U,9,[],_,.dead hd,.inl ⟨by decide,U,s0⟩⟩)
 |false =>
  refine zK 6 U (zY s 0 vU Dz U (zm U (zc U (S7 (n:=n) hT (s.ae [2,2,2]) I.pl Ia I.lg I.dk hw) ?_)));rintro v h ⟨e,b,ε,hr,(⟨he,rfl,s⟩|⟨rfl,u,rfl,s⟩)⟩
  .dsimp only[bringA,getA,aM] at s;refine zk 10 U (zB U aG (by simp;exact he) ?_);exact zk 8 U (WP.ret ⟨aa,_,U,e,[],ε,.mC e b ε hd hr he,.inl ⟨he,U,eM.2 ⟨dv,s.ae [3,3,0,0,0]⟩⟩⟩)
  .dsimp only[bringA,getA,aM] at s;refine zk 10 U (zC U aG (U) ?_);have s:=s.ae [4,4,0,0,0,0];refine zk 8 U (zY s 0 vU Dz U (zm U ?_));have jX:=hr.ok I Ia;refine zc U (Lb (n:=n) hT (s.ae [3]) jX.pl) ?_;rintro v h ⟨rfl,s⟩;refine zk 5 U ?_;by_cases he:(unpinF ε.1 n).1=0
   .skip;refine zC U aG (by simp;exact he) ?_;exact zk 9 U (WP.ret ⟨aa,_,U,0,b,_,.read b ε hd hr he,.inr ⟨U,u,U,(eM.2 ⟨dv,s.ae [1,1,0,1,1,0]⟩).ae [4,0,0,0,0]⟩⟩)
   .skip;refine zB U aG (by simp;exact he) ?_;exact zk 8 U (WP.ret ⟨aa,_,U,_,[],_,.AB b ε hd hr he,.inl ⟨he,U,(eM.2 ⟨dv,(s.ae [1,1,0,1,1,0]).del 5⟩)⟩⟩)
end
structure Pl.Full (π:Pl): Prop where
 nodup:(π.bY.map (·.1)).Nodup
 pV:∀n i,lookL n π.bY=some i->0<=n/\∃f,π.aj[i.toNat]?=some f/\f.bT=n/\f.b.length=512
structure lp (ε:bA): Prop where
 ok:Cg ε
 pins:∀f∈ε.1.aj,f.pins=0
 full:ε.1.Full
theorem Pl.Full.set {f g:Fm}{d:List (Int×(Nat×Bool))}(h:π.Full)(hf:π.aj[i]?=some f)(hp:g.bT=f.bT)(hl:f.b.length=512->g.b.length=512): Pl.Full { π with aj:=π.aj.set i g,eu:=d }:=by
 refine⟨h.nodup,λn j hj => ?_⟩;obtain⟨h1,f',h2,h3,h4⟩:=h.pV n j hj;refine⟨h1,?_⟩;by_cases I:i=j.toNat
 .subst I;rw[hf] at h2;have:=bD h2;subst this;exact⟨g,jO (List.getElem?_eq_some_iff.1 hf).1,hp.trans h3,hl h4⟩
 .exact⟨f',by simp only[lX I];exact h2,h3,h4⟩
theorem ij.full (I:ij π cB)(h:π.Full): cB.Full:=by
 refine⟨by rw[I.bY];exact h.nodup,λn j hj => ?_⟩;rw[I.bY] at hj;obtain⟨h1,f',h2,h3,h4⟩:=h.pV n j hj;obtain⟨t,ht⟩:=I.get _ _ h2;exact⟨h1,_,ht,h3,h4⟩
theorem xE (h:ε.1.Full): (outF ε i).2.1.Full:=by
 unfold outF;split
 .exact h
 .rename_i f I;split
  .exact h
  .split
   .exact h
   .split
    .exact h
    .split
     .exact h
     .exact h.set I U λhl=>hl
theorem AD {f g:Fm}(h:π.Full)(hg:π.aj[i]?=some g)(hp:g.bT=f.bT): (eH π i f).Full/\∀n j,lookL n (eH π i f).bY=some j->j.toNat≠i:=by
 have key:∀n j,lookL n (eH π i f).bY=some j->lookL n π.bY=some j/\j.toNat≠i:=by
  intro n j I;by_cases hf:f.bT<0
  .have hw:(eH π i f).bY=π.bY:=by simp only[eH,ay hf]
   rw[hw] at I;refine⟨I,λhi => ?_⟩;obtain⟨h1,f',h2,h3,_⟩:=h.pV n j I;rw[hi,hg] at h2;have:=bD h2;subst this;omega
  .have hw:(eH π i f).bY=qC f.bT π.bY:=by simp only[eH,ai hf]
   rw[hw,I2 h.nodup] at I;by_cases hn:f.bT=n
   .rw[ay hn] at I;cases I
   .rw[ai hn] at I;refine⟨I,λhi => ?_⟩;obtain⟨h1,f',h2,h3,_⟩:=h.pV n j I;rw[hi,hg] at h2;have:=bD h2;subst this;omega
 refine⟨⟨?_,λn j I => ?_⟩,λn j I=>(key n j I).2⟩
 .unfold eH;simp only;split
  .exact h.nodup
  .exact Au h.nodup
 .obtain⟨h1,h2⟩:=key n j I;obtain⟨h3,f',h4,h5,h6⟩:=h.pV n j h1;exact⟨h3,f',by simp only[eH,lX (jS h2)];exact h4,h5,h6⟩
theorem No {n:Int}(h:π.Full)(hi:i<π.aj.length)(fG:∀n j,lookL n π.bY=some j->j.toNat≠i)(hn:0<=n)(hb:b.length=512): (kN π i n b).Full:=by
 refine⟨oA h.nodup,λm j I => ?_⟩;simp only[kN,mU] at I;by_cases hm:n=m
 .rw[ay hm] at I;have:=bD I;subst this;subst hm;exact⟨hn,⟨n,b,1,true,false⟩,jO hi,U,hb⟩
 .rw[ai hm] at I;obtain⟨h3,f',h4,h5,h6⟩:=h.pV m j I;exact⟨h3,f',by simp only[kN,lX (jS (fG m j I))];exact h4,h5,h6⟩
theorem ik.full {n e:Int}(hr:ik ε n e b ah)(hd:ε.2.2.Ok)(h:ε.1.Full): ah.1.Full/\(e=0->b.length=512):=by
 cases hr with
 |arg _=>exact⟨h,λh=>(by cases h)⟩
 |I8 i f h1 h2 hl hf =>
  refine⟨h.set hf U λhl=>hl,λ_ => ?_⟩;obtain⟨_,f',h4,_,h6⟩:=h.pV n i hl;rw[fI,hf] at h4;have:=bD h4;subst this;exact h6
 |out cB i f h1 h2 hl hn hf hh he=>exact⟨xE (ε:=(cB,ε.2)) (hn.full h),λh=>absurd h he⟩
 |read cB i f h1 h2 hl hn hf hh he hr =>
  obtain⟨c,I⟩:=qm (ε:=(cB,ε.2)) hf;exact⟨(AD (f:=f) (xE (ε:=(cB,ε.2)) (hn.full h)) I U).1,λh=>absurd h hr⟩
 |bad cB i f h1 h2 hl hn hf hh he hr hc =>
  obtain⟨c,I⟩:=qm (ε:=(cB,ε.2)) hf;exact⟨(AD (f:=f) (xE (ε:=(cB,ε.2)) (hn.full h)) I U).1,λh=>absurd h hc⟩
 |load cB i f h1 h2 hl hn hf hh he hr hc =>
  obtain⟨c,I⟩:=qm (ε:=(cB,ε.2)) hf;have hi:=(List.getElem?_eq_some_iff.1 I).1;obtain⟨k1,k2⟩:=AD (f:=f) (xE (ε:=(cB,ε.2)) (hn.full h)) I U;have jY:=(EG (ε:=(cB,ε.2)) (i:=i) hd).at n;exact⟨No k1 (by simp only[eH,cG];exact hi) k2 h1 jY,λ_=>jY⟩
theorem Ef {n:Int}(h:π.Full): (unpinF π n).2.Full:=by
 unfold unpinF;split
 .exact h
 .split
  .exact h
  .rename_i f I;exact h.set I U λhl=>hl
theorem ij.pins (I:ij π cB)(h:∀f∈π.aj,f.pins=0): ∀f∈cB.aj,f.pins=0:=λg hg=>by
 obtain⟨f,hf,t,rfl⟩:=I.aj g hg;exact h f hf
theorem xF (h:∀f∈ε.1.aj,f.pins=0): ∀f∈(outF ε i).2.1.aj,f.pins=0:=by
 unfold outF;split
 .exact h
 .rename_i f hf;have hm:=aJ hf;split
  .exact h
  .split
   .exact h
   .split
    .exact h
    .split
     .exact h
     .intro g I;rcases mI I with I|rfl
      .exact h g I
      .exact h f hm
theorem AE {f:Fm}(h:∀f∈π.aj,f.pins=0): ∀f∈(eH π i f).aj,f.pins=0:=by
 intro g I;rcases mI I with I|rfl
 .exact h g I
 .rfl
theorem ik.OA {n e:Int}(hr:ik ε n e b ah)(he:e≠0)(hp:∀f∈ε.1.aj,f.pins=0): ∀f∈ah.1.aj,f.pins=0:=by
 cases hr with
 |arg _=>exact hp
 |I8 i f h1 h2 hl hf=>exact absurd U he
 |out cB i f h1 h2 hl I hf hh he=>exact xF (ε:=(cB,ε.2)) (I.pins hp)
 |read cB i f h1 h2 hl I hf hh he hr=>exact AE (f:=f) (xF (ε:=(cB,ε.2)) (I.pins hp))
 |bad cB i f h1 h2 hl I hf hh he hr hc=>exact AE (f:=f) (xF (ε:=(cB,ε.2)) (I.pins hp))
 |load cB i f h1 h2 hl I hf hh he hr hc=>exact absurd U he
theorem Lc {m:List Fm}{f g:Fm}(h:∀f∈m,f.pins=0)(hg:g.pins=0): ∀x∈(m.set i f).set i g,x.pins=0:=by
 intro x I;rw[List.set_set] at I;rcases mI I with I|rfl
 .exact h x I
 .exact hg
theorem wQ {n:Int}{f:Fm}(hl:lookL n π.bY=some (i:Int))(I:π.aj[i]?=some f)(hp:f.pins=1): heldI π n=some i/\unpinF π n=(0,{ π with aj:=π.aj.set i { f with pins:=0 } }):=by
 have h1:heldI π n=some i:=by
  simp only[heldI,hl,fI,I,hp];rfl
 refine⟨h1,?_⟩;simp only[unpinF,h1,I,hp];rfl
theorem V_ {n:Int}{x:α}{l:List (Int×α)}: lookL n (cD n x l)=some x:=by rw[mU,ay U]
theorem ik.at {n:Int}(hr:ik ε n 0 b ah)(hp:∀f∈ε.1.aj,f.pins=0):
  ∃(i:Nat) (f:Fm),lookL n ah.1.bY=some (i:Int)/\ah.1.aj[i]?=some f/\f.pins=1/\f.b=b/\∀g:Fm,g.pins=0->∀x∈ah.1.aj.set i g,x.pins=0:=by
 generalize I:(0:Int)=e at hr;cases hr with
 |arg _=>cases I
 |I8 i f h1 h2 hl hf =>
  have hi:=(List.getElem?_eq_some_iff.1 hf).1;refine⟨i,{ f with gV:=true,pins:=f.pins+1 },hl,by simp[hi],by have:=hp f (aJ hf);show f.pins+1=1;omega,U,λg hg=>Lc hp hg⟩
 |out cB i f h1 h2 hl hn hf hh he=>exact absurd I.symm he
 |read cB i f h1 h2 hl hn hf hh he hr=>exact absurd I.symm hr
 |bad cB i f h1 h2 hl hn hf hh he hr hc=>exact absurd I.symm hc
 |load cB i f h1 h2 hl hn hf hh he hr hc =>
  obtain⟨c,SD⟩:=qm (ε:=(cB,ε.2)) hf;have hi:=(List.getElem?_eq_some_iff.1 SD).1;refine⟨i,⟨n,_,1,true,false⟩,V_,jO (by show i<(List.set _ i _).length;rw[cG];exact hi),U,U,λg hg=>Lc (AE (f:=f) (xF (ε:=(cB,ε.2)) (hn.pins hp))) hg⟩
theorem ik.EK {n:Int}(hr:ik ε n 0 b ah)(I:∀f∈ε.1.aj,f.pins=0): (unpinF ah.1 n).1=0/\∀f∈(unpinF ah.1 n).2.aj,f.pins=0:=by
 obtain⟨i,f,h1,h2,h3,h4,h5⟩:=hr.at I;rw[(wQ h1 h2 h3).2];exact⟨U,h5 _ U⟩
theorem pq.qw {n e:Int}(hr:pq ε n e b ah)(h:lp ε): lp ah:=by
 refine⟨hr.ok h.ok h.pins,?_,?_⟩
 .cases hr with
  |dead _=>exact h.pins
  |mC e b ah I hr he=>exact hr.OA he h.pins
  |AB b ah I hr he=>exact(hr.EK h.pins).2
  |read b ah I hr he=>exact(hr.EK h.pins).2
 .cases hr with
  |dead _=>exact h.full
  |mC e b ah I hr he=>exact(hr.full h.ok.dk h.full).1
  |AB b ah I hr he=>exact Ef (hr.full h.ok.dk h.full).1
  |read b ah I hr he=>exact Ef (hr.full h.ok.dk h.full).1
theorem pq.len {n:Int}(hr:pq ε n 0 b ah)(h:lp ε): b.length=512:=by
 generalize I:(0:Int)=e at hr;cases hr with
 |dead _=>cases I
 |mC e b ah hd hr he=>exact absurd I.symm he
 |AB b ah hd hr he=>exact absurd I.symm he
 |read b ah hd hr he=>exact(hr.full h.ok.dk h.full).2 U
inductive GRd (ε:bA)(now:List (Int×List Nat))(cF:Bool)(n:Int): Int->List Nat->bA->Prop where
 |arg (h:¬(0<=n/\n<ε.2.2.bI.length)):GRd ε now cF n 1 [] ε
 |cF (h1:0<=n) (h2:n<ε.2.2.bI.length) (h:cF=true):GRd ε now cF n 18 [] ε
 |own (b:List Nat) (h1:0<=n) (h2:n<ε.2.2.bI.length) (h:cF=false) (hl:lookL n now=some b):GRd ε now cF n 0 b ε
 |read (e:Int) (b:List Nat) (ah:bA) (h1:0<=n) (h2:n<ε.2.2.bI.length) (h:cF=false) (hl:lookL n now=none) (hr:pq ε n e b ah):GRd ε now cF n e b ah
theorem GRd.qw {cF:Bool}{n e:Int}(hr:GRd ε now cF n e b ah)(h:lp ε): lp ah:=by
 cases hr with
 |arg _=>exact h
 |cF _ _ _=>exact h
 |own _ _ _ _ _=>exact h
 |read e b ah I h2 h3 hl hr=>exact hr.qw h
theorem OpR.invoke {o:Oper}{cl:Go.Call}{x:Operand}{m:String}{k:FuncId}{R:V->H->Prop}(sB:o.op=.call cl)(hc:cl.callee=.invoke x m)
 (hx:bE E x=some (.iface t u))(hm:methV C.P t m=some k)(ha:lookArgs E cl.args.toList=some args)(I:Am.Call C k (u::args) h R): OpR C E h o R:=by
 obtain⟨v,h₁,⟨N,hN⟩,hr⟩:=I;exact⟨v,h₁,hr,λenv hE=>⟨N,by simp only[evOp,sB,evCall,oR hE ha,hc,cE hE hx,hm];exact hN⟩⟩
theorem OB : methV Tryz.prog 32 "Read" = some 255 := by kernel_rfl
theorem Z2 : methV Tryz.prog 24 "Read" = some 137 := by kernel_rfl
theorem Yo {x:Operand}(hu:Tryz.prog.underlying t=some (.pointer e)): binV Tryz.prog h .neq t x y .cg .cg=some (.bool false):=by simp only[binV,eqV,hu];rfl
theorem adD {x:Operand}{o:Nat}(hu:Tryz.prog.underlying t=some (.pointer e)): binV Tryz.prog h .neq t x y (.ptr i o) .cg=some (.bool true):=by simp only[binV,eqV,hu];rfl
theorem AF {x:Operand}{o:Nat}(hu:Tryz.prog.underlying t=some (.pointer e)): binV Tryz.prog h .eql t x y (.ptr i o) .cg=some (.bool false):=by simp only[binV,eqV,hu];rfl
theorem adE {x:Operand}{o:Nat}(hu:Tryz.prog.underlying t=some (.pointer e)): binV Tryz.prog h .eql t x y .cg (.ptr i o)=some (.bool false):=by simp only[binV,eqV,hu];rfl
theorem adF {k:TypeId}{x:Operand}{m:Nat}{ds:List V}(hu:Tryz.prog.underlying t=some (.pointer e))(I:bq Tryz.prog e=some k)(h1:1<=k)(hi:T.get h.tr i=some (.cells n cs false))(hj:T.get h.tr j=some (.cells m ds false))(hn:1<=n)(hm:1<=m):
  binV Tryz.prog h .eql t x y (.ptr i 0) (.ptr j 0)=some (.bool (Nat.beq i j)):=by
 simp only[binV,eqV,hu,I,aS.2 h1,ag,hi,hj,aS.2 hn,aS.2 hm,kf,kg,Bool.and_true,gQ]
section
variable {told:cu} {p:Nat} {op v:V} {m:List Fm} {cF:Bool}
theorem I_ (I:W told)(s:Sat h (gH a p q r .cg data aR::S)): Call ⟨Tryz.prog,told⟩ 43 [.ptr a 0] h λv h'=>∃g,v=.aX [.ptr g 0,.int .i64 0]/\Sat h' (iy g a [] false::gH a p q r (.ptr g 0) data aR::S):=by
 obtain⟨dv,s⟩:=eM.1 s;refine Call.of_wp (I.free _ U) Tryz.func43 U U (zK 10 U (zY s 0 vV P8 U (zC U (Yo j9) (U) (zk 7 U ?_))));refine au.BS s U U U U (λGm h s => ?_);refine zo U (cO U (by rw[ac7];rfl)) ?_;refine au.cj s U U U (fC U U) (λp13 h s => ?_);refine zn U (zf U (vV _ _) ?_);refine zS U (by exact s.kC (k:=2) U aby U (by decide) U U) (λh s => ?_);refine zk 5 U (zY s 2 vV P8 U (zk 3 U (WP.ret ⟨aa,_,U,?_⟩)));have s1:=ri (f:=λv (b:List Nat)=>.b8 v b) (s.ae [1]);have s:=fW.2 ⟨_,s1.ae [1]⟩;exact⟨_,U,(eM.2 ⟨dv,s.ae [1,1,0]⟩).ae [1]⟩
theorem Ld (hT:W told){n:Int}(s:Sat h (iy g a now cF::gH a p q r op data aR::gG r p q π::dH q p μ::bZ p δ::S))(cn:lp (π,μ,δ))(hw:δ.waiting.length<=268435456)(rq:∀e∈now,e.2.length=512):
  Call ⟨Tryz.prog,told⟩ 255 [.ptr g 0,.int .i64 n] h λv h'=>∃(e:Int) (b:List Nat) (ε:bA),GRd (π,μ,δ) now cF n e b ε /\
   ((e≠0/\v=.aX [.aZ,.int .i64 e]/\Sat h' (iy g a now cF::gH a p q r op data aR::gG r p q ε.1::dH q p ε.2.1::bZ p ε.2.2::S)) \/
    (e=0/\∃u,v=.aX [u,.int .i64 0]/\Sat h' (bf u b::iy g a now cF::gH a p q r op data aR::gG r p q ε.1::dH q p ε.2.1::bZ p ε.2.2::S))):=by
 have s0:=s;obtain⟨nv,s⟩:=fW.1 s;obtain⟨dv,s⟩:=eM.1 (s.ae [2]);dsimp only[bringA,getA,aM] at s;refine Call.of_wp (hT.free _ U) Tryz.func255 U U (zK 6 U (WP.block (zK 3 U ?_)));refine zd U (aq U U aK) ?_ ?_
 .intro hq;have hq:n<0:=by simpa using hq
  exact zk 20 U (WP.ret ⟨aa,_,U,1,[],_,.arg (by simp only;omega),.inl ⟨by decide,U,s0⟩⟩)
 .intro hq;have hq:0<=n:=by simp at hq;omega
  refine zk 4 U (zY s 2 rX BV U (zn U (zY s 0 DB yg U (zc U (ED hT (s.ae [6])) ?_))));rintro v h ⟨rfl,rfl⟩;refine zd U (aq U U j6) ?_ ?_
  .intro I;have I:(δ.bI.length:Int)<=n:=by simpa using I
   exact zk 9 U (WP.ret ⟨aa,_,U,1,[],_,.arg (by simp only;omega),.inl ⟨by decide,U,s0⟩⟩)
  .intro I;have I:n<(δ.bI.length:Int):=by simp at I;omega
   refine zk 8 U (zf U (Dy _ _) ?_);cases cF with
   |true =>
    exact zt U (o_load U (s.ld (k:=2) U sH U)) (U) (zk 8 U (WP.ret ⟨aa,_,U,18,[],_,.cF hq I U,.inl ⟨by decide,U,s0⟩⟩))
   |false =>
    refine zh U (o_load U (by exact s.ld (k:=2) U sH U)) (U) ?_;refine za U (zv (zj U (WP.skip (zw (zg U (zk 2 U (zf U (tL _ _) (zl U (by exact s.ld (k:=2) U qV U) ?_))))))));refine zm U ?_;rcases oh (n:=n) (λ_ _=>aI.b8 _ _) (s.ae [3]) uE b_ lK with⟨g1,g2,_⟩|⟨u,b,g1,g2,_,s2⟩
    .refine au.op U U U (kM U U g2) ?_;refine zk 5 U (zv (zg U (zm U (zv (zj U (WP.skip (zg U (zk 2 U (zf U (rX _ _) (zl U (by exact s.ld (k:=2) U BV U) ?_))))))))));refine zm U (zc U (EJ (n:=n) hT (s0.ae [1,1,1,1]) cn.ok cn.pins hw) ?_);rintro v h ⟨e,b,ε,hr,(⟨he,rfl,s⟩|⟨rfl,u,rfl,s⟩)⟩
     .dsimp only[bringA,getA,aM] at s;exact zk 5 U (WP.ret ⟨aa,_,U,e,b,ε,.read e b ε hq I U g1 hr,.inl ⟨he,U,s.ae [4]⟩⟩)
     .dsimp only[bringA,getA,aM] at s;exact zk 5 U (WP.ret ⟨aa,_,U,0,b,ε,.read 0 b ε hq I U g1 hr,.inr ⟨U,u,U,s.ae [0,4]⟩⟩)
    .dsimp only[bringA,getA,aM] at s2;refine zo U (kM U U g2) (zk 14 U ?_);have hb:=rq _ (om g1);refine zc U (vA hT s2 (bp _ _) (by simp only at hb;omega)) ?_;intro v h s;refine zk 3 U (WP.ret ⟨aa,_,U,?_⟩);have s:=eM.2 ⟨dv,s.ae [3,3,0,0,0,0,0,0,0]⟩;have s:=fW.2 ⟨nv,s.ae [4,3]⟩;exact⟨0,b,_,.own b hq I U g1,.inr ⟨U,v,U,((s.ae [2,0,0,1,1,1]).del 6)⟩⟩
end
inductive wR (ε:bA)(now:List (Int×List Nat))(cF:Bool)(n:Int)(b:List Nat): Int->List (Int×List Nat)->bA->Prop where
 |may (e:Int) (c:List Nat) (ah:bA) (hr:GRd ε now cF n e c ah) (he:e≠0):wR ε now cF n b e now ah
 |bad (c:List Nat) (ah:bA) (hr:GRd ε now cF n 0 c ah) (hg:cI b=false):wR ε now cF n b 4 now ah
 |done (c:List Nat) (ah:bA) (hr:GRd ε now cF n 0 c ah) (hg:cI b=true):wR ε now cF n b 0 (cD n b now) ah
theorem wR.qw {aN:List (Int×List Nat)}{cF:Bool}{n e:Int}(hr:wR ε now cF n b e aN ah)(h:lp ε): lp ah:=by
 cases hr with
 |may e c ah hr he=>exact hr.qw h
 |bad c ah hr I=>exact hr.qw h
 |done c ah hr I=>exact hr.qw h
section
variable {told:cu} {p:Nat} {op v:V} {m:List Fm} {cF:Bool}
theorem abW (hT:W told){n:Int}(s:Sat h (iy g a now cF::gH a p q r op data aR::gG r p q π::dH q p μ::bZ p δ::S))(cn:lp (π,μ,δ))(hw:δ.waiting.length<=268435456)(I:∀e∈now,e.2.length=512):
  Call ⟨Tryz.prog,told⟩ 133 [.iface 32 (.ptr g 0),.int .i64 n] h λv h'=>∃(e:Int) (b:List Nat) (ε:bA),GRd (π,μ,δ) now cF n e b ε/\v=.int .i64 e /\
   Sat h' (iy g a now cF::gH a p q r op data aR::gG r p q ε.1::dH q p ε.2.1::bZ p ε.2.2::S):=by
 refine Call.of_wp (hT.free _ U) Tryz.func133 U U (zK 8 U (au.any U U U (OpR.invoke U U U OB U (Ld (n:=n) hT s cn hw I)) ?_));rintro v h ⟨e,b,ε,hr,(⟨he,rfl,s⟩|⟨rfl,u,rfl,s⟩)⟩
 .refine au.op U U U (b7 U) ?_;exact zk 10 U (WP.ret ⟨aa,_,U,e,b,ε,hr,U,s⟩)
 .skip;exact zk 11 U (WP.ret ⟨aa,_,U,0,b,ε,hr,U,s.drop⟩)
theorem Ja (hT:W told){n:Int}(s:Sat h (iy g a now cF::gH a p q r op data aR::gG r p q π::dH q p μ::bZ p δ::X::S))(hX:cC X (cK x b))(hb:b.length<9223372036854775808)(cn:lp (π,μ,δ))(hw:δ.waiting.length<=268435456)(rq:∀e∈now,e.2.length=512):
  Call ⟨Tryz.prog,told⟩ 55 [.ptr g 0,.int .i64 n,x] h λv h'=>∃(e:Int) (aN:List (Int×List Nat)) (ε:bA),wR (π,μ,δ) now cF n b e aN ε/\v=.int .i64 e /\
   Sat h' (iy g a aN cF::gH a p q r op data aR::gG r p q ε.1::dH q p ε.2.1::bZ p ε.2.2::X::S):=by
 refine Call.of_wp (hT.free _ U) Tryz.func55 U U (zK 8 U (zo U (oz U (mki_of j9 U)) (zm U (zc U (abW (n:=n) hT s cn hw rq) ?_))));rintro v h ⟨e,c,ε,hr,rfl,s⟩;refine zk 5 U ?_;by_cases he:e=0
 .skip;subst he;refine zC U aG (U) (zk 7 U (zc U (Ot hT (s.ae [5]) hX hb) ?_));rintro v h ⟨rfl,s⟩;refine zo U (eo U U) (zv ?_);by_cases I:cI b=true
  .skip;refine WP.X8 U (by rw[I];rfl) ?_;have Qr:=jy I;obtain⟨nv,s⟩:=fW.1 (s.ae [1]);have s:=s.ae [2,0,0];obtain⟨wS,rfl⟩:=KQ s (j:=2) U;refine zK 2 U ?_;have s0:=s;refine WP.drawn [some (0,2),some (0,2),some (0,2),some (0,2),some (0,2),af,af,af] U (by kernel_rfl) (by kernel_rfl) ?_;refine zM U (zN U (zF U (tL _ _) (zL U (s.ld (k:=1) U qV U) (zM U (zM U (aB.any U U U U (OpR.call U U U U (vA hT s hX (by omega))) ?_))))));intro u h s;obtain⟨lS,_,cap,_,rfl,_⟩:=s.eX (by omega);have s:=s.ff;have s1:=s;refine aB.lJ U U U (OpR.mapUpdate U U U U (oB (f:=λv b=>aE.b8 v b) (x:=b) (λ_ _=>aI.b8 _ _) (s.ae [0,2]) uE b_)) ?_;intro w h s;refine aB.nil ⟨⟨λ_ _=>.inr ⟨U,⟨_,b7 U⟩,bx _ U⟩,λ_ _=>.inr ⟨U,⟨_,vr U⟩,bx _ U⟩,λ_ _=>.inr ⟨U,⟨_,m9 U (tL _ _)⟩,bx _ U⟩,gF (.inr ⟨U,⟨_,o_load U (s0.ld (k:=1) U qV U)⟩,bx _ U⟩) (.inr ⟨U,⟨_,o_load U (s1.ld (k:=2) U qV U)⟩,bx _ U⟩),λ_ _=>.inr ⟨U,⟨_,b7 U⟩,bx _ U⟩,yr 4⟩,?_⟩;exact zK 4 U (WP.ret ⟨aa,_,U,0,_,ε,.done c ε hr I,U,fW.2 ⟨.map wS,s.ae [2,0,1,1,1,1,0]⟩⟩)
  .have I:cI b=false:=by simpa using I
   refine WP.P6 U (by rw[I];rfl) ?_;exact zK 4 U (WP.ret ⟨aa,_,U,4,_,ε,.bad c ε hr I,U,s.ae [1,1,1,1,1,0]⟩)
 .skip;refine zB U aG (by simp;exact he) ?_;exact zk 7 U (WP.ret ⟨aa,_,U,e,_,ε,.may e c ε hr he,U,s⟩)
theorem Jb (I:W told)(s:Sat h (iy g a now cF::gH a p q r (.ptr g 0) data aR::S)): Call ⟨Tryz.prog,told⟩ 60 [.ptr g 0] h λv h'=>v=.aX []/\Sat h' (iy g a now true::gH a p q r .cg data aR::S):=by
 obtain⟨nv,s⟩:=fW.1 s;obtain⟨dv,s⟩:=eM.1 (s.ae [2]);refine Call.of_wp (I.free _ U) Tryz.func60 U U (zK 4 U (zf U (Dy _ _) ?_));refine zS U (by exact s.kC (k:=2) U BU U (by decide) U U) (λh s => ?_);refine zk 5 U (zY s 2 rX BV U (zn U (zY s 0 vV P8 U (zm U (zB U (adF j9 ac6 (by decide) (s.row (k:=2) U) (s.row (k:=2) U) (by decide) (by decide)) (kg g) ?_)))));refine zk 5 U (zY s 2 rX BV U (zn U (zf U (vV _ _) ?_)));refine zS U (by exact s.kC (k:=0) U aby U (by decide) U U) (λh s => ?_);refine zv ?_;have s:=fW.2 ⟨nv,(eM.2 ⟨dv,s⟩).ae [1,1]⟩;exact⟨aa,_,U,U,s⟩
theorem Wa (I:W told)(s:Sat h (iy g a now cF::gH a p q r (.ptr g 0) data aR::S)): Call ⟨Tryz.prog,told⟩ 20 [.ptr g 0] h λv h'=>v=.aX []/\Sat h' (iy g a now true::gH a p q r .cg data aR::S):=by
 refine Call.of_wp (I.free _ U) KV U U (zK 2 U (zc U (Jb I s) ?_));rintro v h ⟨rfl,s⟩;exact zv ⟨aa,_,U,U,s⟩
theorem Np (I:W told)(s:Sat h (iy g a now cF::gH a p q r .cg data aR::S)): Call ⟨Tryz.prog,told⟩ 60 [.ptr g 0] h λv h'=>v=.aX []/\Sat h' (iy g a now true::gH a p q r .cg data aR::S):=by
 obtain⟨nv,s⟩:=fW.1 s;obtain⟨dv,s⟩:=eM.1 (s.ae [2]);dsimp only[bringA,getA,aM] at s;refine Call.of_wp (I.free _ U) Tryz.func60 U U (zK 4 U (zf U (Dy _ _) ?_));refine zS U (by exact s.kC (k:=2) U BU U (by decide) U U) (λh s => ?_);dsimp only[Oz,Nat.reduceAdd,List.set,setA] at s;refine zv (zg U (zk 2 U (zf U (rX _ _) (zl U (by exact s.ld (k:=2) U BV U) ?_))));refine zn U (zf U (vV _ _) (zl U (by exact s.ld (k:=0) U P8 U) ?_));refine zm U (zh U (aq U U (adE j9)) (U) (zv (zj U (WP.skip ?_))));have s:=fW.2 ⟨nv,(eM.2 ⟨dv,s⟩).ae [1,1]⟩;exact⟨aa,_,U,U,s⟩
theorem Qy (I:W told)(s:Sat h (iy g a now cF::gH a p q r .cg data aR::S)): Call ⟨Tryz.prog,told⟩ 20 [.ptr g 0] h λv h'=>v=.aX []/\Sat h' (iy g a now true::gH a p q r .cg data aR::S):=by
 refine Call.of_wp (I.free _ U) KV U U (zK 2 U (zc U (Np I s) ?_));rintro v h ⟨rfl,s⟩;exact zv ⟨aa,_,U,U,s⟩
end
inductive A6 (bT:Int)(was now:List Nat): Nat->List fT->Prop where
 |done (i:Nat) (h:now.length<=i):A6 bT was now i []
 |skip (i:Nat) (l:List fT) (h:i<now.length) (he:was[i]?=now[i]?) (hr:A6 bT was now (i+1) l):A6 bT was now i l
 |take (i e:Nat) (l:List fT) (h1:i<e) (h2:e<=now.length) (h3:was[i]?≠now[i]?) (h4:∀k,e<=k->k<e+8->was[k]?=now[k]?) (hr:A6 bT was now e l):A6 bT was now i (⟨bT,i,false,(now.take e).drop i⟩::l)
def Tb (bT:Int)(was now:List Nat)(c:List fT): Prop:=∃l,A6 bT was now 12 l/\c=if l=[] then[⟨bT,0,false,[]⟩] else l
theorem EM : ∃i,Tryz.prog.info? 206=some i/\i.size=4/\i.bytes=48 :=
 ⟨_,(show Tryz.prog.info? 206=some ((Tryz.prog.info? 206).getD default) by kernel_rfl),by kernel_rfl,by kernel_rfl⟩
section
variable {told:cu} {Y:aE} {p:Nat} {op v:V} {was now:List Nat}
noncomputable def rgO : Code:=dm [1,1,0,1,0,0] ((Tryz.f139.body).getD .skip)
noncomputable def rgI : Code:=dm [1,1,0,1,0,0,1,0,1,1,0,1,0,0] ((Tryz.f139.body).getD .skip)
theorem Wb {I:Nat}{t7:V}{k1 k2:Nat}(s:Sat h S)(lN:getA S k1=some X)(hX:cC X (cK u was))(kW:getA S k2=some Y)(hY:cC Y (cK v now))(wL:was.length=512)(iL:now.length=512): ∀(j i e:Nat) (E:List (Nat×V)) (Q:Ex->List (Nat×V)->H->Prop),i+j=512->I<e->e<=i->(∀k,e<=k->k<i->was[k]?=now[k]?) ->
  Has E [(0,.int .i64 pg),(1,u),(2,v),(7,t7),(8,.int .i64 (I:Int)),(9,.int .i64 (e:Int)),(10,.int .i64 (i:Int))] ->
  (∀e' E',I<e'->e'<=512->(∀k,e'<=k->k<e'+8->was[k]?=now[k]?)->Has E' [(0,.int .i64 pg),(1,u),(2,v),(7,t7),(8,.int .i64 (I:Int)),(9,.int .i64 (e':Int))]->Q (.exit 2) E' h) ->
  WP ⟨Tryz.prog,told⟩ 71 (.loop rgI) E h Q:=by
 have hv:=s.aC kW hY
 have hu:=s.aC lN hX
 have hlen:lenV Tryz.prog h 29 v=some (.int .i64 now.length):=bw aP hv
 intro j
 induction j with
 |zero =>
  intro i e E Q hi h1 h2 hg hE hq
  refine WP.loop (WP.has hE (zK 5 U (zo U (aD U U U hlen) (zC U aK (by grind) ?_))))
  refine zk 8 U (WP.exit ?_)
  refine hq e _ h1 (by omega) (λk k1 _ => ?_) ⟨U,U,U,U,U,U,aa⟩
  by_cases hk:k<i
  .grind
  .grind
 |succ j ih =>
  intro i e E Q hi h1 h2 hg hE hq
  have hb:now[i]?=some (now[i]'(by omega)):=aF _
  generalize (now[i]'(by omega))=b at hb
  have hc:was[i]?=some (was[i]'(by omega)):=aF _
  generalize (was[i]'(by omega))=c at hc
  obtain⟨id,off,e1,e2⟩:=eU hv hb
  obtain⟨w8,off',e3,e4⟩:=eU hu hc
  refine WP.loop (WP.has hE (zK 5 U (zo U (aD U U U hlen) (zB U aK (by grind) ?_))))
  refine zk 3 U (zb U (by exact aL ak) ?_)
  by_cases hd:i<e+8
  .skip
   refine zB U aK (by grind) ?_
   refine zk 5 U (WP.block (zw ?_))
   have s0:=s
   refine WP.drawn [af,af,af,af,af,af,af,af,af] U (by kernel_rfl) (by kernel_rfl) ?_
   refine zM U (zM U (zO U (bM (r:=.ptr w8 off') U U e3) (zL U e4 (zM U (zM U (zO U (bM (r:=.ptr id off) U U e1) (zL U e2 ?_)))))))
   by_cases hbc:c=b
   .skip
    refine aB.rW U U U U (aq U U aG) (by grind) ?_
    refine aB.nil ⟨⟨aa,aa,aa,aa,aa,aa,aa,aa,aa,aa⟩,?_⟩
    refine zj U (WP.skip (zr U (zm U (zb U (by exact aL ak) ?_))))
    refine za U (zv ?_)
    exact ih (i+1) e _ Q (by omega) h1 (by omega) (λk k1 k2=>(by
     grind)) ⟨U,U,U,U,U,U,U,aa⟩ hq
   .skip
    refine aB.xx U U U U (aq U U aG) (by grind) ?_
    refine aB.nil ⟨⟨aa,aa,aa,aa,aa,aa,aa,aa,aa,aa⟩,?_⟩
    refine zK 3 U (zb U (by exact aL ak) ?_)
    refine za U (zv (zr U (zm U (zb U (by exact aL ak) ?_))))
    refine za U (zv ?_)
    exact ih (i+1) (i+1) _ Q (by omega) (by omega) (by omega) (λk k1 k2=>absurd k2 (by omega)) ⟨U,U,U,U,U,U,U,aa⟩ hq
  .skip
   refine zC U aK (by grind) ?_
   exact zk 3 U (WP.exit (hq e _ h1 (by omega) (λk k1 k2=>hg k k1 (by omega)) ⟨U,U,U,U,U,U,aa⟩))
theorem Wc (hT:W told)(hX:cC X (cK u was))(hY:cC Y (cK v now))(wL:was.length=512)(iL:now.length=512): ∀(j i:Nat) (acc:List fT) (av:V) (cs:List V) (h:H) (E:List (Nat×V)) (Q:Ex->List (Nat×V)->H->Prop),512<=i+j->i<=512->acc.length<=i ->
  Sat h (.arr 4 av cs::fP cs acc::X::Y::S)->(∀l,A6 pg was now i l->A6 pg was now 12 (acc++l)) ->
  Has E [(0,.int .i64 pg),(1,u),(2,v),(7,av),(8,.int .i64 (i:Int))] ->
  (∀xG cs' l E' h',A6 pg was now 12 l->l.length<=512->Sat h' (.arr 4 xG cs'::fP cs' l::X::Y::S)->Has E' [(0,.int .i64 pg),(7,xG)]->Q (.exit 0) E' h') ->
  WP ⟨Tryz.prog,told⟩ 71 (.loop rgO) E h Q:=by
 intro j
 induction j with
 |zero =>
  intro i acc av cs h E Q hj hi Ss s I hE hq
  have hlen:lenV Tryz.prog h 29 v=some (.int .i64 now.length):=bw aP (s.aC (k:=3) U hY)
  refine WP.loop (WP.has hE (zK 5 U (zo U (aD U U U hlen) (zC U aK (by grind) ?_))))
  refine zk 2 U (WP.exit ?_)
  have:=I [] (.done _ (by omega))
  rw[fZ] at this
  exact hq av cs acc _ _ this (by omega) s ⟨U,U,aa⟩
 |succ j ih =>
  intro i acc av cs h E Q hj hi Ss s I hE hq
  have hv:=s.aC (k:=3) U hY
  have hu:=s.aC (k:=2) U hX
  have hlen:lenV Tryz.prog h 29 v=some (.int .i64 now.length):=bw aP hv
  by_cases cq:i<512
  .have hb:now[i]?=some (now[i]'(by omega)):=aF _
   generalize (now[i]'(by omega))=b at hb
   have hc:was[i]?=some (was[i]'(by omega)):=aF _
   generalize (was[i]'(by omega))=c at hc
   obtain⟨id,off,e1,e2⟩:=eU hv hb
   obtain⟨w8,off',e3,e4⟩:=eU hu hc
   refine WP.loop (WP.has hE (zK 5 U (zo U (aD U U U hlen) (zB U aK (by grind) ?_))))
   refine zk 3 U (WP.block (zK 2 U ?_))
   have s0:=s
   refine WP.drawn [af,af,af,af,af,af,af,af,af] U (by kernel_rfl) (by kernel_rfl) ?_
   refine zM U (zM U (zO U (bM (r:=.ptr w8 off') U U e3) (zL U e4 (zM U (zM U (zO U (bM (r:=.ptr id off) U U e1) (zL U e2 ?_)))))))
   by_cases hbc:c=b
   .skip
    refine aB.xx U U U U (aq U U dK) (by grind) ?_
    refine aB.nil ⟨⟨aa,aa,aa,aa,aa,aa,aa,aa,aa,aa⟩,?_⟩
    refine zK 4 U (zb U (by exact aL ak) ?_)
    exact zk 2 U (WP.exit (ih (i+1) acc av cs h _ Q (by omega) (by omega) (by omega) s (λl hl=>I l (.skip i l (by omega) (by grind) hl)) ⟨U,U,U,U,U,aa⟩ hq))
   .skip
    refine aB.rW U U U U (aq U U dK) (by grind) ?_
    refine aB.nil ⟨⟨aa,aa,aa,aa,aa,aa,aa,aa,aa,aa⟩,?_⟩
    refine zK 5 U (zb U (by exact aL ak) ?_)
    refine zk 8 U (WP.block ?_)
    refine Wb s (k1:=2) (k2:=3) U hX U hY wL iL (512-(i+1)) (i+1) (i+1) _ _ (by omega) (tC i) (aH _) (λk k1 k2=>absurd k2 (by omega)) ⟨U,U,U,U,U,U,U,aa⟩ (λe' E' he1 Cj he3 dY => ?_)
    refine WP.has dY ?_
    have hsv:=fR hv (a:=i) (b:=e') (by omega) (by omega)
    refine zK 8 U (zo U (bK (p:=some (.int .i64 (i:Int))) (q:=some (.int .i64 (e':Int))) (m:=none) (p':=some i) (q':=some e') (m':=none) U U U U (by rfl) (by rfl) U hsv.1) ?_)
    refine zc U (vA hT (s.ae [3]) (Ey hY (a:=i) (b:=e') (by omega) (by omega)) (by grind)) ?_
    intro w h s
    dsimp only[bringA,getA,aM] at s
    obtain⟨wid,_,Ck,_,rfl,_⟩:=s.eX (by grind)
    have s:=s.ff
    generalize X0:(now.take e').drop i=bs at s
    refine zo U (cO U (by rw[Qf];rfl)) ?_
    obtain⟨rv,h1,wP,s1⟩:=kV (P:=Tryz.prog) (k:=4) (x:=.agg [.int .i64 pg,.int .i64 (i:Int),.bool false,.sl wid 0 bs.length Ck]) s mu xy DE U (by decide) (by decide) U U
    dsimp only[V.cells] at s1
    refine au.any U U U (OpR.of (R:=λv h'=>v=rv/\h'=h1) (je U wP) ⟨U,U⟩) ?_
    rintro v' h' ⟨rfl,rfl⟩
    obtain⟨i1,c9,fH,pR⟩:=EM
    have fN:cs.length=acc.length*4:=by
     obtain⟨a,b,q1,q2,q3⟩:=s1.at (k:=4) U
     exact tT q3
    obtain⟨xG,h2,sR,s2⟩:=iw (s1.ae [3,0]) mu c9 xy fH (by omega) U (by decide) (by grind)
    dsimp only[bringA,getA,aM] at s2
    refine au.any U U U (OpR.of (R:=λv h'=>v=xG/\h'=h2) (iY U U sR) ⟨U,U⟩) ?_
    rintro v' h' ⟨rfl,rfl⟩
    refine za U (zv (zr U (zk 2 U (zv ?_))))
    have s3:Sat _ (fP cs acc::.b8 (.sl wid 0 bs.length Ck) bs::_):=s2.ae [4,2]
    have s4:=s3.two (C:=fP (cs++[.int .i64 pg,.int .i64 (i:Int),.bool false,.sl wid 0 bs.length Ck]) (acc++[⟨pg,i,false,bs⟩])) (aI.sQ _ _) (aI.b8 _ _) λa b q1 q2=>EE q1 ⟨⟨⟨U,U,U⟩,q2⟩,aa⟩
    have s5:=(s4.ae [1,0,2,1]).del 4
    dsimp only[bringA,getA,aM] at s5
    refine ih e' (acc++[⟨pg,(i:Int),false,bs⟩]) _ _ _ _ Q (by omega) Cj (by grind) s5 (λl hl => ?_) ⟨U,U,U,U,U,aa⟩ hq
    have:=I _ (.take i e' l he1 (by omega) (λhx=>by grind) he3 hl)
    rw[X0] at this
    rwa [dN]
  .have hi5:i=512:=by omega
   refine WP.loop (WP.has hE (zK 5 U (zo U (aD U U U hlen) (zC U aK (by simp<;>omega) ?_))))
   refine zk 2 U (WP.exit ?_)
   have:=I [] (.done _ (by omega))
   rw[fZ] at this
   exact hq av cs acc _ _ this (by omega) s ⟨U,U,aa⟩
theorem Tc (hT:W told)(s:Sat h (X::Y::S))(hX:cC X (cK u was))(hY:cC Y (cK v now))(I:was.length=512)(iL:now.length=512):
  Call ⟨Tryz.prog,told⟩ 139 [.int .i64 pg,u,v] h λw h'=>∃cs l,Tb pg was now l/\l.length<=512/\Sat h' (.arr 4 w cs::fP cs l::X::Y::S):=by
 refine Call.of_wp (hT.free _ U) Tryz.func139 U U (zK 13 U (WP.block ?_));refine Wc hT (pg:=pg) hX hY I iL 500 12 [] .aZ [] _ _ _ (by omega) (by omega) (by simp) ((s.gJ aa).mq) (λl hl=>hl) ⟨U,U,U,U,U,aa⟩ (λxG cs' l E' h' hr pW s' dY => ?_);have s:=s';have hlen:=s.B8 (j1:=0) (j2:=1) U U mu;have OC:=s.uT (j:=0) U;refine WP.has dY (zK 4 U (zo U (aD U U U hlen) ?_));by_cases BD:l=[]
 .skip;refine zB U dK (by grind) ?_;refine zk 5 U (zo U (cO U (by rw[Qf];rfl)) ?_);obtain⟨rv,h1,wP,s1⟩:=kV (P:=Tryz.prog) (k:=4) (x:=.agg [.int .i64 pg,.int .i64 0,.bool false,.aZ]) s mu xy DE U (by decide) (by decide) U U;dsimp only[V.cells] at s1;refine au.any U U U (OpR.of (R:=λv h'=>v=rv/\h'=h1) (je U wP) ⟨U,U⟩) ?_;rintro v' h' ⟨rfl,rfl⟩;refine zk 2 U (WP.ret ⟨aa,_,U,?_⟩);refine⟨[.int .i64 pg,.int .i64 0,.bool false,.aZ],[⟨pg,0,false,[]⟩],⟨l,hr,by grind⟩,by simp,?_⟩;have s2:=(s1.del 2).del 1;have s3:Sat _ (.b8 .aZ []::.arr 4 v' _::X::Y::S):=s2.ug;have s4:=s3.dM (B:=fP [.int .i64 pg,.int .i64 0,.bool false,.aZ] [⟨pg,0,false,[]⟩]) λa b q=>⟨⟨⟨U,U,U⟩,q⟩,aa⟩;exact s4.ae [1,0]
 .skip;refine zC U dK (by simp_all) ?_;exact zk 8 U (WP.ret ⟨aa,_,U,_,l,⟨l,hr,by grind⟩,pW,s⟩)
end
end Go.Proofs.YtdonpgpfplgigaaGreat.Am
