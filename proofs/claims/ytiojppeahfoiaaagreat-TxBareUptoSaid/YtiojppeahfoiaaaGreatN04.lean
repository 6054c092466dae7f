/- TxBare: a part of its proof; conditions: its statement's. -/
import Derived.Test.YtiojppeahfoiaaaGreatN02
import Derived.Test.YtiojppeahfoiaaaGreatN03
set_option linter.defProp false
namespace Go.Proofs.YtiojppeahfoiaaaGreat.Am
open Go Go.Maps Go.Sort Go.Shelf Go.RowKit
def gz:=@Tryz.underlying106
def iF:=@Tryz.underlying102
def Ai:=@Tryz.underlying107
def Aj:=@Tryz.underlying214
def Ak:=@Tryz.func117
def IP:=@Tryz.underlying281
def IQ:=@Tryz.underlying334
abbrev af {α:Type}:Option α:=none
variable {X:aI} {C:ep} {es:cx} {Q:Ex→List (Nat×V)→H→Prop} {h h₁ h':H} {κ:IntKind} {E:List (Nat×V)} {L:List (V×H)} {S:List aI} {l b data seen:List Nat} {cs post:List V} {g n k s i size aF a d z p6 r id off q j tx pv nx j1 j2 p1 cZ c bk clock im N:Nat} {o:Oper} {y:Operand} {P:Program} {α:Type} {t e:TypeId} {x bv dt wh di:V}
theorem abw (m:Nat): AnyZI.SortsIn Tryz.prog Tryz.sorted106_ren Fence.wide m :=
 ⟨fun lP off cap ss W hH I J=>callsIn_wide.2 (AnyM.slices_Sort_int Tryz.sort176 lP off cap ss W hH I J),
  fun p cap W=>callsIn_wide.2 (AnyM.slices_Sort_int_none Tryz.sort176 p cap W)⟩
theorem FH (eg:∀args w,(callFunc g args).run Tryz.prog w=.ok (.enter g args) w){Bm:Nat}{D0:DataW Unit}{w:World}(kC:Maps.size D0≤maxLen)(I:Maps.size D0*8≤140737488355328)
 (acO:SeqGives Fence.wide 2 Tryz.prog g #[.pointer (some ⟨Bm,0,none⟩)] encZ (fun J=>J.Perm (intKeys D0)) (Maps.size D0) w):
  Calls Tryz.prog 106 #[.func (.func g) #[] #[.pointer (some ⟨Bm,0,none⟩)]] w fun e w'=>∃(v:Value) (J:List Int),e=.returned v∧J.Perm (intKeys D0) ∧
   w'.ownsRow w.heap.size 3 1 v J.length ((J.mergeSort (fun x y=>decide (x≤y))).map encZ)∧(v=.slice none 0 0↔J=[])∧Below w.heap.size w w' :=
 (callsIn_wide (n:=5)).1 (AnyZI.sorted_in Tryz.sorted106 Fence.wide 5 aa aa aa aa rfl (by omega) (abw _) (enters_of Tryz.func176 (by rfl) rfl) g _ aa eg _ _ kC I _ acO)
def BF : List Nat:=[177,187,218]
theorem Qe : Gr Tryz.prog 106 3 BF:=by
 intro g hg Bm b nn D0 w hB hm J kC I
 simp only[BF,jz,kF,n4] at hg
 rcases hg with rfl|rfl|rfl
 ·exact FH (enters_of Tryz.func177 (by rfl) rfl) kC I (AnyZI.keys_gives (ρ:=Tryz.keys107_ren) { Tryz.keys107 with } Fence.wide _ aa rfl (by omega) Bm b nn D0 w hB hm J)
 ·exact FH (enters_of Tryz.func187 (by rfl) rfl) kC I (AnyZI.keys_gives (ρ:=Tryz.keys115_ren) { Tryz.keys115 with } Fence.wide _ aa rfl (by omega) Bm b nn D0 w hB hm J)
 ·exact FH (enters_of Tryz.func218 (by rfl) rfl) kC I (AnyZI.keys_gives (ρ:=Tryz.keys181_ren) { Tryz.keys181 with } Fence.wide _ aa rfl (by omega) Bm b nn D0 w hB hm J)
end Go.Proofs.YtiojppeahfoiaaaGreat.Am
namespace Go.Proofs.YtiojppeahfoiaaaGreat.Am
open Go
variable {X:aI} {C:ep} {es:cx} {Q:Ex→List (Nat×V)→H→Prop} {h h₁ h':H} {κ:IntKind} {E:List (Nat×V)} {L:List (V×H)} {S:List aI} {l b data seen:List Nat} {cs post:List V} {g n k s i size aF a d z p6 r id off q j tx pv nx j1 j2 p1 cZ c bk clock im N:Nat} {o:Oper} {y:Operand} {P:Program} {α:Type} {t e:TypeId} {x bv dt wh di:V}
def IS : List Nat:=[71,235,236,212,211,180,190,163]
structure Std (told:cJ): Prop where
 free:∀f,inL IS f=true→told f=none
 more:told 217=some toldMore
theorem wrap_u64 (h:n<18446744073709551616): IntKind.wrap .u64 (n:Int)=(n:Int):=by
 grind[IntKind.wrap,IntKind.bits,IntKind.signed]
theorem wrap_u8 (n:Nat): IntKind.wrap .u8 (n:Int)=((n%256:Nat):Int):=by
 rfl
def digits : Nat→Nat→List Nat
 |0,n=>[n%128]
 |k+1,n=>if n<128 then[n] else(n%128+128)::digits k (n/128)
set_option maxRecDepth 10000 in
theorem abx (h:n<256): Nat.lor n 128=n%128+128:=by
 have:∀m:Fin 256,Nat.lor m.1 128=m.1%128+128:=by decide
 exact this ⟨n,h⟩
theorem NU (h:n<256): intV .or .u8 (n:Int) 128=some (.int .u8 ((n%128+128:Nat):Int)):=by
 have I:((n:Int)%(2^(IntKind.u8).bits:Int)).toNat=n:=by grind[IntKind.bits]
 have J:((128:Int)%(2^(IntKind.u8).bits:Int)).toNat=128:=by rfl
 grind[intV,bitsV,abx,wrap_u8]
theorem acP : shiftV .shr .u64 (n:Int) 7=some (.int .u64 ((n/128:Nat):Int)):=by
 grind[shiftV,IntKind.bits]
section
variable {told:cJ}
noncomputable def vtX : Code:=unloop (unblk (leftC (cS ((Tryz.f235.body).getD .skip))))
theorem vO : convV Tryz.prog h 32 5 (.int .u64 (n:Int))=some (.int .u8 ((n%256:Nat):Int),h):=by
 simp[convV,wrap_u8]
theorem jw (h:n<128): digits k n=[n]:=by
 cases k<;>grind[digits]
theorem DT (hn:n<128)(I:look E 1=some (.int .u64 (n:Int)))
 (J:Q (.exit 0) ((6,.bool false)::(5,.int .u64 (n:Int))::E) h): WP ⟨Tryz.prog,told⟩ 20 (.loop vtX) E h Q:=by
 refine WP.loop (WP.seq (WP.seq (WP.region rfl ?_)))
 refine zo rfl (bn I) (zo rfl (ay (v:=.int .u64 (n:Int)) (u:=.int .u64 128) (r:=.bool false) rfl rfl (by simp only[binV,ikBeq,ah,intV];congr 2;simp;omega)) ?_)
 exact au.nil (WP.cond (t:=false) rfl (WP.exit J))
theorem KU : ∀(k n:Nat) (l:List Nat) (s:V) (h:H) (E:List (Nat×V)) (Q:Ex→List (Nat×V)→H→Prop),kS h→jB h s l→n<128^(k+1)→k≤9→l.length+k+1≤140737488355328 →
  look E 0=some s→look E 1=some (.int .u64 (n:Int)) →
  (∀E' h' s' l' (m:Nat),look E' 0=some s'→look E' 1=some (.int .u64 (m:Int))→m<128→l'++[m]=l++digits k n→jB h' s' l'→dW (2*k) (rowIds s) h h'→(∀i∈rowIds s',i∈rowIds s∨h.next≤i)→Q (.exit 0) E' h') →
  WP ⟨Tryz.prog,told⟩ 20 (.loop vtX) E h Q:=by
 intro k
 induction k with
 |zero =>
  intro n l s h E Q hw hs hn _ _ h0 J hq
  have I:n<128:=by omega
  exact DT I J (hq _ h s l n h0 J I (by rw[jw I]) hs (dW.refl hw _) (fun i hi=>.inl hi))
 |succ k ih =>
  intro n l s h E Q hw hs hn hk hl h0 J hq
  by_cases I:n<128
  ·exact DT I J (hq _ h s l n h0 J I (by rw[jw I]) hs ((dW.refl hw _).mono (ew _) (fun _ h=>h)) (fun i hi=>.inl hi))
  ·have hd:n/128<128^(k+1):=by
    omega
   refine WP.loop (WP.seq (WP.seq (WP.region rfl ?_)))
   refine zo rfl (bn J) (zo rfl (ay (v:=.int .u64 (n:Int)) (u:=.int .u64 128) (r:=.bool true) rfl rfl (by simp only[binV,ikBeq,ah,intV];congr 2;simp;omega)) ?_)
   refine au.nil (WP.cond (t:=true) rfl (WP.skip ?_))
   refine WP.block (WP.seq (WP.region rfl ?_))
   refine zo rfl (bn h0) (zo rfl (bn J) (zo rfl (bT (v:=.int .u64 (n:Int)) rfl vO) (zo rfl (ay (v:=.int .u8 ((n%256:Nat):Int)) (u:=.int .u8 128) (r:=.int .u8 ((n%256%128+128:Nat):Int)) rfl rfl (by exact NU (by omega))) ?_)))
   refine au.NI (b:=n%256%128+128) rfl hw rfl rfl rfl rfl rfl rfl (by omega) (fun v h₁ b1 k1 f1 => ?_)
   have g_:jB h₁ s l:=hs.lD hw k1 (fun i _=>kF)
   refine au.app (s:=s) (x:=v) rfl k1.wf rfl rfl rfl rfl rfl rfl rfl g_ b1.view (by grind) (fun v2 Qf b2 k2 f2 => ?_)
   have w8:dW 2 (rowIds s) h Qf:=(k1.mono (aV _) (fun i hi=>by grind)).trans k2 (fun i hi=>.inl hi)
   refine za rfl ?_
   refine au.nil (WP.region rfl ?_)
   refine zo rfl (bn J) (zo rfl (ay (v:=.int .u64 (n:Int)) (u:=.int .u64 7) (r:=.int .u64 ((n/128:Nat):Int)) rfl rfl acP) (zk 2 rfl ?_))
   refine ih (n/128) (l++[n%256%128+128]) v2 Qf _ Q w8.wf b2 hd (by omega) (by grind) rfl rfl (fun E' h' s' l' m q1 q2 q3 q4 q5 q6 q7 => ?_)
   refine hq E' h' s' l' m q1 q2 q3 ?_ q5 ?_ (fun i hi => ?_)
   ·grind[digits]
   ·exact(w8.trans q6 (fun i hi=>(f2 i hi).imp_right (fun h=>cM k1.le h))).mono (by omega) (fun i hi=>hi)
   ·rcases q7 i hi with h3|h3
    ·exact(f2 i h3).imp_right (fun h=>cM k1.le h)
    ·exact .inr (cM w8.le h3)
theorem GF (hT:Std told){s:V}(hw:kS h)(hs:jB h s l)(hn:n<128^(k+1))(hk:k≤9)(hl:l.length+k+1≤140737488355328):
  Call ⟨Tryz.prog,told⟩ 235 [s,.int .u64 (n:Int)] h fun v h'=>jB h' v (l++digits k n)∧dW (2*k+2) (rowIds s) h h'∧∀i∈rowIds v,i∈rowIds s∨h.next≤i:=by
 refine Call.of_wp (hT.free _ rfl) Tryz.func235 rfl rfl ?_
 refine WP.seq (WP.region rfl (au.op rfl rfl rfl (fq rfl) (au.nil ?_)))
 refine WP.seq (WP.block ?_)
 refine KU k n l s h _ _ hw hs hn hk hl rfl rfl (fun E' h' s' l' m q1 q2 q3 q4 q5 I q7 => ?_)
 have yN:l'.length=l.length+(digits k n).length-1:=by
  have:=iW List.length q4
  simp at this
  omega
 have J:∀(k n:Nat),(digits k n).length≤k+1:=by
  intro k
  induction k<;>grind[digits]
 have aew:=J k n
 refine WP.seq (WP.region rfl ?_)
 refine zo rfl (bn q1) (zo rfl (bn q2) (zo rfl (bT (v:=.int .u64 (m:Int)) rfl vO) ?_))
 refine au.NI (b:=m%256) rfl I.wf rfl rfl rfl rfl rfl rfl (by omega) (fun v h₁ b1 k1 f1 => ?_)
 have g_:jB h₁ s' l':=q5.lD I.wf k1 (fun i _=>kF)
 refine au.app (s:=s') (x:=v) rfl k1.wf rfl rfl rfl rfl rfl rfl rfl g_ b1.view (by grind) (fun v2 Qf b2 k2 f2 => ?_)
 refine za rfl ?_
 refine au.nil (WP.ret ?_)
 refine⟨aa,v2,rfl,?_,?_,fun i hi => ?_⟩
 ·grind
 ·refine((I.trans k1 (fun i hi=>by grind)).trans k2 (fun i hi => ?_)).mono (by omega) (fun i hi=>hi)<;>grind
 ·rcases f2 i hi with h3|h3
  ·grind
  ·exact .inr (by have:=I.le;have:=k1.le;omega)
theorem IT (I:n<18446744073709551616): convV Tryz.prog h 3 32 (.int .i64 (n:Int))=some (.int .u64 (n:Int),h):=by
 simp_all[convV,wrap_u64]
theorem gV : ∀(k n:Nat),(digits k n).length≤k+1:=by
 intro k
 induction k<;>grind[digits]
theorem Xj (I:Std told){s:V}{m:List Nat}(hw:kS h)(hs:jB h s l)(J:View h x m)(hd:∀i∈rowIds x,i∉rowIds s)(hn:m.length<128^(k+1))(hk:k≤9)(hl:l.length+k+1+m.length≤140737488355328):
  Call ⟨Tryz.prog,told⟩ 236 [s,x] h fun v h'=>jB h' v (l++digits k m.length++m)∧dW (2*k+3) (rowIds s) h h'∧∀i∈rowIds v,i∈rowIds s∨h.next≤i:=by
 refine Call.of_wp (I.free _ rfl) Tryz.func236 rfl rfl ?_
 refine WP.seq (WP.region rfl (au.op rfl rfl rfl (fq rfl) (au.nil ?_)))
 refine WP.seq (WP.region rfl ?_)
 refine zk 2 rfl (zo rfl (aP (v:=x) rfl rfl rfl J.len) (zo rfl (bT (v:=.int .i64 (m.length:Int)) rfl (IT (by omega))) ?_))
 refine au.call rfl rfl rfl rfl rfl rfl rfl (GF I (k:=k) hw hs hn hk (by omega)) (fun v h₁ ⟨b1,k1,f1⟩ => ?_)
 refine zm rfl ?_
 have GG:=gV k m.length
 refine au.app (s:=v) (x:=x) rfl k1.wf rfl rfl rfl rfl rfl rfl rfl b1 (J.lD hw k1 hd) (by grind) (fun v2 Qf b2 k2 f2 => ?_)
 refine au.op rfl rfl rfl (fq rfl) (au.nil (WP.ret ?_))
 refine⟨aa,v2,rfl,b2,(k1.trans k2 f1).mono (by omega) (fun i hi=>hi),fun i hi => ?_⟩
 rcases f2 i hi with h3|h3
 ·grind
 ·exact .inr (cM k1.le h3)
def le : Nat→Nat→List Nat
 |0,_=>[]
 |k+1,n=>(n%256)::le k (n/256)
theorem cO : ∀(k n:Nat),(le k n).length=k:=by
 intro k
 induction k<;>grind[le]
theorem NV : ∀(k n:Nat),∀b∈le k n,b<256:=by
 intro k
 induction k with
 |zero=>intro n b I;cases I
 |succ k J =>
  intro n b I
  rcases List.mem_cons.1 I with rfl|I<;>grind
noncomputable def lyX : Code:=unloop (unblk (cS (leftC (cS ((Tryz.f71.body).getD .skip)))))
theorem acQ (hi:i≤8): shiftV .shr .u64 (n:Int) ((8*i:Nat):Int)=some (.int .u64 ((n/256^i:Nat):Int)):=by
 simp only[shiftV,IntKind.bits,cL]
 rw[show min (8*i) 64=8*i by omega,show decide (((8*i:Nat):Int)<0)=false by rfl,aX]
 rw[Int.fdiv_eq_ediv_of_nonneg _ (Int.pow_nonneg (by omega))]
 rw[show(256:Nat)^i=2^(8*i) by rw[Nat.pow_mul]]
 push_cast
 rfl
theorem Tl (eL:size≤8): ∀(j i:Nat) (l:List Nat) (s:V) (h:H) (E:List (Nat×V)) (Q:Ex→List (Nat×V)→H→Prop),kS h→jB h s l→i+j=size→l.length+j≤140737488355328 →
  look E 0=some s→look E 2=some (.int .u64 (n:Int))→look E 8=some (.int .i64 (size:Int))→look E 9=some (.int .i64 (i:Int)) →
  (∀E' h' s',look E' 0=some s'→jB h' s' (l++le j (n/256^i))→dW (2*j) (rowIds s) h h'→(∀i∈rowIds s',i∈rowIds s∨h.next≤i)→Q (.exit 0) E' h') →
  WP ⟨Tryz.prog,told⟩ 22 (.loop lyX) E h Q:=by
 intro j
 induction j with
 |zero =>
  intro i l s h E Q hw hs hi _ h0 h2 h8 h9 hq
  refine WP.loop (WP.seq (WP.region rfl ?_))
  refine zo rfl (ay (v:=.int .i64 (i:Int)) (u:=.int .i64 (size:Int)) (r:=.bool false) h9 h8 (by simp_all[binV,ikBeq,intV])) ?_
  refine au.nil (WP.seq (WP.cond (t:=false) rfl (WP.exit ?_)))
  exact hq _ h s h0 (by simpa[le] using hs) (dW.refl hw _) (fun i hi=>.inl hi)
 |succ j ih =>
  intro i l s h E Q hw hs hi hl h0 h2 h8 h9 hq
  refine WP.loop (WP.seq (WP.region rfl ?_))
  refine zo rfl (ay (v:=.int .i64 (i:Int)) (u:=.int .i64 (size:Int)) (r:=.bool true) h9 h8 (by simp only[binV,ikBeq,ah,intV];congr 2;simp;omega)) ?_
  refine au.nil (WP.seq (WP.cond (t:=true) rfl (WP.skip ?_)))
  refine WP.seq (WP.block (WP.seq (WP.region rfl ?_)))
  refine zo rfl (bn h9) ?_
  refine au.op rfl rfl rfl (fq rfl) (au.nil (WP.region rfl ?_))
  refine zo rfl (bn h0) (zo rfl (bn h2) (zm rfl ?_))
  refine au.op rfl rfl rfl (ay (v:=.int .i64 8) (u:=.int .i64 (i:Int)) (r:=.int .i64 ((8*i:Nat):Int)) rfl rfl (by
   simp only[binV,ikBeq,ah,intV]
   rw[show(8:Int)*(i:Int)=((8*i:Nat):Int) by rfl,wrap_i64 (by omega)])) ?_
  refine zo rfl (ay (v:=.int .u64 (n:Int)) (u:=.int .i64 ((8*i:Nat):Int)) (r:=.int .u64 ((n/256^i:Nat):Int)) rfl rfl (by exact acQ (by omega))) ?_
  refine zo rfl (bT (v:=.int .u64 ((n/256^i:Nat):Int)) rfl vO) ?_
  refine au.NI (b:=n/256^i%256) rfl hw rfl rfl rfl rfl rfl rfl (by omega) (fun v h₁ b1 k1 f1 => ?_)
  have g_:jB h₁ s l:=hs.lD hw k1 (fun i _=>kF)
  refine au.app (s:=s) (x:=v) rfl k1.wf rfl rfl rfl rfl rfl rfl rfl g_ b1.view (by grind) (fun v2 I b2 k2 f2 => ?_)
  have J:dW 2 (rowIds s) h I:=(k1.mono (aV _) (fun i hi=>by grind)).trans k2 (fun i hi=>.inl hi)
  refine au.op rfl rfl rfl (fq rfl) (au.nil (WP.region rfl ?_))
  refine zo rfl (ay (v:=.int .i64 (i:Int)) (u:=.int .i64 1) h9 rfl (by simp only[binV,ikBeq,ah];exact zW (by omega))) ?_
  refine au.op rfl rfl rfl (bn rfl) (au.nil ?_)
  refine ih (i+1) (l++[n/256^i%256]) v2 I _ Q J.wf b2 (by omega) (by grind) rfl h2 h8 rfl (fun E' h' s' q1 q2 q3 q4 => ?_)
  refine hq E' h' s' q1 ?_ ?_ (fun i hi => ?_)
  ·grind[Nat.div_div_eq_div_mul,le]
  ·exact(J.trans q3 (fun i hi=>(f2 i hi).imp_right (fun h=>cM k1.le h))).mono (by omega) (fun i hi=>hi)
  ·rcases q4 i hi with h3|h3
   ·exact(f2 i h3).imp_right (fun h=>cM k1.le h)
   ·exact .inr (cM J.le h3)
theorem Qg (J:Std told){s:V}(hw:kS h)(hs:jB h s l)(I:size≤8)(hl:l.length+size≤140737488355328):
  Call ⟨Tryz.prog,told⟩ 71 [s,.int .i64 (size:Int),.int .u64 (n:Int)] h fun v h'=>jB h' v (l++le size n)∧dW (2*size) (rowIds s) h h'∧∀i∈rowIds v,i∈rowIds s∨h.next≤i:=by
 refine Call.of_wp (J.free _ rfl) Tryz.func71 rfl rfl ?_
 refine WP.seq (WP.region rfl (au.op rfl rfl rfl (fq rfl) (au.nil ?_)))
 refine WP.seq (WP.seq (WP.region rfl ?_))
 refine zm rfl ?_
 refine au.op rfl rfl rfl (bn rfl) (au.nil (WP.block ?_))
 refine Tl I size 0 l s h _ _ hw hs (by omega) hl rfl rfl rfl rfl (fun E' h' s' q1 q2 q3 q4 => ?_)
 refine WP.seq (WP.region rfl ?_)
 refine zo rfl (bn q1) ?_
 refine au.op rfl rfl rfl (fq rfl) (au.nil (WP.ret ?_))
 exact⟨aa,s',rfl,by grind,q3,q4⟩
theorem NX : ∀(l:List Nat),(∀b∈l,b<256)→bytesIn (ofBytes l)=some l:=by
 intro l
 induction l<;>grind[List.mem_cons_self,bytesIn,ofBytes]
def CM (s:Nat)(l:List Nat): Nat:=Nat.xor (crcL (Nat.xor s 4294967295) l) 4294967295
theorem FI (hs:s<4294967296)(I:∀b∈l,b<256): CM s l<4294967296:=oN (Fu l _ (oN hs (by omega)) I) (by omega)
theorem L_ (hT:Std told)(J:View h x l)(hl:l.length≤4611686018427387904)(hs:s<4294967296):
  gJ ⟨Tryz.prog,told⟩ 217 [.int .u32 (s:Int),x] h (.int .u32 (CM s l:Nat)) h:=by
 refine gJ.told hT.more Dq rfl ?_
 have I:=J
 obtain⟨hb,I⟩:=I
 rcases I with⟨rfl|⟨ea,rfl⟩,rfl⟩|⟨id,off,cap,n,cs,st,rfl,hg,h1,h2,h3,h4⟩
 ·simp only[toldMore]
  rw[show(decide ((0:Int)≤(s:Int))&&decide ((s:Int)<4294967296))=true by grind]
  rfl
 ·simp only[toldMore]
  rw[show(decide ((0:Int)≤(s:Int))&&decide ((s:Int)<4294967296))=true by grind]
  rfl
 ·simp only[toldMore]
  rw[show(decide ((0:Int)≤(s:Int))&&decide ((s:Int)<4294967296)&&Nat.ble l.length 4611686018427387904)=true by simp[aL];omega,ah,(View.rdN J).2]
  simp only[NX l hb]
  rfl
theorem aby (I:Std told)(J:View h x l)(hl:l.length≤4611686018427387904):
  Call ⟨Tryz.prog,told⟩ 180 [x] h fun v h'=>v=.int .u32 (CM 0 l:Nat)∧h'=h:=by
 refine Call.of_wp (I.free _ rfl) Tryz.func180 rfl rfl ?_
 refine WP.seq (WP.region rfl (au.op rfl rfl rfl (fq rfl) (au.nil ?_)))
 refine WP.seq (WP.region rfl ?_)
 refine zm rfl ?_
 refine au.call (zT:=fun v h'=>v=.int .u32 (CM 0 l:Nat)∧h'=h) rfl rfl rfl rfl rfl rfl rfl ⟨_,_,L_ (s:=0) I J hl (by omega),rfl,rfl⟩ (fun v h₁ ⟨e1,e2⟩ => ?_)
 subst e1;subst e2
 exact au.op rfl rfl rfl (fq rfl) (au.nil (WP.ret ⟨aa,_,rfl,rfl,rfl⟩))
def tC (aF:Nat)(l:List Nat): Nat:=CM (CM 0 (le 8 aF)) l
theorem IU (I:∀b∈l,b<256): tC aF l<4294967296:=FI (FI (by omega) (NV 8 aF)) I
theorem Qh (J:Std told)(hw:kS h)(hx:View h x l)(hl:l.length≤4611686018427387904):
  Call ⟨Tryz.prog,told⟩ 190 [.int .u64 (aF:Int),x] h fun v h'=>v=.int .u32 (tC aF l:Nat)∧dW 16 [] h h':=by
 refine Call.of_wp (J.free _ rfl) Tryz.func190 rfl rfl ?_
 refine WP.seq (WP.region rfl (au.op rfl rfl rfl (fq rfl) (au.nil ?_)))
 refine WP.seq (WP.region rfl ?_)
 refine zm rfl ?_
 refine au.call rfl rfl rfl rfl rfl rfl rfl (Qg (size:=8) (s:=.aY) (l:=[]) (n:=aF) J hw ⟨by simp,.inl ⟨rfl,rfl⟩⟩ (by omega) (by simp)) (fun v h₁ ⟨b1,k1,f1⟩ => ?_)
 rw[dU] at b1
 refine au.call rfl rfl rfl rfl rfl rfl rfl (aby J b1.view (by rw[cO];omega)) (fun v2 I ⟨e1,e2⟩ => ?_)
 subst e1;subst e2
 refine zm rfl ?_
 refine au.call (zT:=fun v h'=>v=.int .u32 (tC aF l:Nat)∧h'=I) rfl rfl rfl rfl rfl rfl rfl
  ⟨_,_,L_ (s:=CM 0 (le 8 aF)) J (hx.lD hw k1 (fun i _ hi=>by simp[rowIds] at hi)) hl (FI (by omega) (NV 8 aF)),rfl,rfl⟩ (fun v3 Dy ⟨e3,e4⟩ => ?_)
 subst e3;subst e4
 exact au.op rfl rfl rfl (fq rfl) (au.nil (WP.ret ⟨aa,_,rfl,rfl,k1.mono (aV _) (fun i hi=>by simp[rowIds] at hi)⟩))
end
def ZI : List Nat:=[11]
def ZJ : List Nat:=[79]
def ZK : List Nat:=[]
def ZL : List Nat:=[76,136,159,208]
def ZM : List Nat:=[80,26]
def ZN : List Nat:=[]
def IV : List Nat:=ZI++(ZJ++(ZK++(ZL++(ZM++(ZN++[217,106,191,117,118])))))
structure W (told:cJ): Prop where
 free:∀f,inL IV f=false→told f=none
 more:told 217=some toldMore
 sorted:told 106=some (toldSorted BF)
theorem W.VY {told:cJ}(I:W told): Std told:=by
 refine⟨fun f J=>I.free f ?_,I.more⟩
 have:∀f∈IS,inL IV f=false:=by decide
 grind[Pr]
def kY (v:V): Option (List Nat)→aI
 |none=>.pu (v=.aY)
 |some b=>.an (.pu (v≠.aY)) (.cD v b)
theorem bg.kY (v:V)(o:Option (List Nat)): bg (Am.kY v o):=by
 cases o with
 |none=>exact bg.pu _
 |some b=>exact bg.an (bg.pu _) (bg.cD _ _)
def each {α:Type}(f:V→α→aI): List V→List α→aI
 |[],[]=>.pu True
 |v::l,x::m=>.an (f v x) (each f l m)
 |_,_=>.pu False
theorem bg.each {α:Type}{f:V→α→aI}(I:∀v x,bg (f v x)): ∀(l:List V) (m:List α),bg (Am.each f l m):=by
 intro l
 induction l with
 |nil=>intro m;cases m<;>exact bg.pu _
 |cons v l J=>intro m;cases m with
  |nil=>exact bg.pu _
  |cons x m=>exact bg.an (I _ _) (J m)
section
variable {f:V→α→aI} {a b:PM}
theorem rK : ∀ {l:List V} {m:List α},(each f l m).p a b→l.length=m.length:=by
 intro l
 induction l with
 |nil=>intro m h;cases m with
  |nil=>rfl
  |cons x m=>exact h.elim
 |cons v l I=>intro m h;cases m with
  |nil=>exact h.elim
  |cons x m=>simp only[bz,I h.2]
theorem CN : ∀ {l:List V} {m:List α} {i:Nat} {v:V} {x:α},(each f l m).p a b→l[i]?=some v→m[i]?=some x→(f v x).p a b:=by
 intro l
 induction l with
 |nil=>simp
 |cons u l ih=>intro m i v x h I J;cases m with
  |nil=>grind
  |cons y m =>
   cases i with
   |zero=>simp at I J;subst I;subst J;exact h.1
   |succ i=>exact ih h.2 I J
theorem CO : ∀ {l:List V} {m:List α} {i:Nat} {v:V} {x:α},(each f l m).p a b→(f v x).p a b→(each f (l.set i v) (m.set i x)).p a b:=by
 intro l
 induction l with
 |nil=>intro m i v x h I;cases m with
  |nil=>exact h
  |cons x m=>exact h.elim
 |cons u l J=>intro m i v x h I;cases m with
  |nil=>exact h.elim
  |cons y m =>
   cases i with
   |zero=>exact⟨I,h.2⟩
   |succ i=>exact⟨h.1,J h.2 I⟩
theorem Xk {us:List V}{cs:List α}{c:α}(J:∀v x,bg (f v x))(s:Sat h (each f us cs::S))(I:cs[i]?=some c): ∃u,us[i]?=some u∧Sat h (f u c::each f us cs::S):=by
 obtain⟨a,b,q1,q2,q3⟩:=s.at (k:=0) rfl
 have hl:=rK q3
 have hi:=(List.getElem?_eq_some_iff.1 I).1
 have hu:us[i]?=some (us[i]'(by omega)):=bw _
 exact⟨_,hu,(s.dup (bg.each J _ _)).iu fun a b h=>CN h hu I⟩
end
abbrev Wr := Nat×List Nat
structure Dk where
 room:Nat
 aq:List (Option (List Nat))
 waiting:List Wr
 now:List (Int×List Nat)
 log:List Nat
 bu:Nat
 mark:List Nat
 aU:Int
 dead:Bool
 eV:Option Wr
 tail:List Nat
variable {δ:Dk}
def w9 (room:Nat)(pg wt nw lg:V)(ct:Nat)(mk:V)(I ops:Int)(dead:Bool)(J tl:V): List V :=
 [.int .i64 (room:Int),pg,wt,nw,lg,.int .i64 (ct:Int),mk,.int .i64 I,.int .i64 ops,.bool dead,J,tl]
def uH : List V→List Wr→aI
 |[],[]=>.pu True
 |p::v::l,x::m=>.an (.an (.pu (p=.int .i64 (x.1:Int)∧v≠.aY)) (.cD v x.2)) (uH l m)
 |_,_=>.pu False
theorem bg.wr : ∀(m:List Wr) (l:List V),bg (uH l m):=by
 intro m
 induction m with
 |nil=>intro l;cases l with
  |nil=>exact bg.pu _
  |cons v l=>cases l<;>exact bg.pu _
 |cons x m I=>intro l;cases l with
  |nil=>exact bg.pu _
  |cons v l=>cases l with
   |nil=>exact bg.pu _
   |cons u l=>exact bg.an (bg.an (bg.pu _) (bg.cD _ _)) (I l)
theorem Xl {a b:PM}: ∀ {m:List Wr} {l:List V} {x:Wr} {v:V},(uH l m).p a b→v≠.aY→(aI.cD v x.2).p a b→(uH (l++[.int .i64 (x.1:Int),v]) (m++[x])).p a b:=by
 intro m
 induction m with
 |nil=>intro l x v h I J;cases l with
  |nil=>exact⟨⟨⟨rfl,I⟩,J⟩,aa⟩
  |cons u l=>cases l<;>exact h.elim
 |cons y m ih=>intro l x v h I J;cases l with
  |nil=>exact h.elim
  |cons u l=>cases l with
   |nil=>exact h.elim
   |cons w l=>exact⟨h.1,ih h.2 I J⟩
theorem BG {a b:PM}: ∀ {m:List Wr} {l:List V},(uH l m).p a b→l.length=m.length*2:=by
 intro m
 induction m with
 |nil=>intro l h;cases l with
  |nil=>rfl
  |cons u l=>cases l<;>exact h.elim
 |cons y m I=>intro l h;cases l with
  |nil=>exact h.elim
  |cons u l=>cases l with
   |nil=>exact h.elim
   |cons w l=>have:=I h.2;simp only[bz];omega
def oT (v:V)(m:List (Option (List Nat))): aI:=xs fun id:Nat=>xs fun cs:List V=>star [.pu (v=.sl id 0 m.length (.exact m.length)),pt id (.cells m.length cs false),each kY cs m]
def BH (v:V)(m:List Wr): aI:=xs fun cs:List V=>star [.arr 2 v cs,uH cs m]
def BI (v:V): Option Wr→aI
 |none=>.pu (v=.bq)
 |some x=>xs fun id:Nat=>xs fun u:V=>star [.pu (v=.ptr id 0),pt id (.cells 2 [.int .i64 (x.1:Int),u] false),.cD u x.2]
def aO (p:Nat)(δ:Dk): aI:=xs fun pg:V=>xs fun wt:V=>xs fun nw:V=>xs fun lg:V=>xs fun mk:V=>xs fun I:V=>xs fun J:V=>xs fun ops:Int =>
 star [pt p (.cells 12 (w9 δ.room pg wt nw lg δ.bu mk δ.aU ops δ.dead I J) false),oT pg δ.aq,BH wt δ.waiting,ng (fun v b=>.cD v b) nw δ.now,aZ lg δ.log,Cc mk δ.mark,BI I δ.eV,Cc J δ.tail]
section
variable {p:Nat}
theorem bE : Sat h (aO p δ::S)↔∃pg wt nw lg mk I J ops,Sat h (pt p (.cells 12 (w9 δ.room pg wt nw lg δ.bu mk δ.aU ops δ.dead I J) false)::oT pg δ.aq::BH wt δ.waiting::ng (fun v b=>.cD v b) nw δ.now::aZ lg δ.log::Cc mk δ.mark::BI I δ.eV::Cc J δ.tail::S):=by
 simp[aO,gK,aM]
theorem gA {v:V}{m:List (Option (List Nat))}: Sat h (oT v m::S)↔∃id cs,v=.sl id 0 m.length (.exact m.length)∧Sat h (pt id (.cells m.length cs false)::each kY cs m::S):=by
 simp[oT,gK,aM,ej]
theorem mF {v:V}{m:List Wr}: Sat h (BH v m::S)↔∃cs,Sat h (.arr 2 v cs::uH cs m::S):=by
 grind[BH,gK,aM]
end
section
variable {told:cJ} {v:V}
def DU (s:Nat)(l:List Nat): Nat:=Nat.xor (crcL (Nat.xor s 4294967295) l) 4294967295
theorem CP (hs:s<4294967296)(I:∀b∈l,b<256): DU s l<4294967296:=oN (Fu _ _ (oN hs (by omega)) I) (by omega)
theorem Xm (hT:W told)(sa:Sat h S)(hk:getA S k=some X)(hX:cN X (cP v l))(hs:s<4294967296)(hl:l.length≤4611686018427387904):
  Call ⟨Tryz.prog,told⟩ 217 [.int .u32 (s:Int),v] h fun r h'=>r=.int .u32 (DU s l:Nat)∧h'=h:=by
 have I:=sa.aG hk hX
 refine⟨_,_,gJ.told hT.more Dq rfl ?_,rfl,rfl⟩
 have J:wS (s:Int) l=.int .u32 (DU s l:Nat):=by rfl
 have Cg:=I
 rcases Cg.2 with⟨rfl|⟨ea,rfl⟩,rfl⟩|⟨id,off,cap,n,cs,st,rfl,_⟩
 ·grind[toldMore]
 ·grind[toldMore]
 ·simp only[toldMore]
  rw[show(decide ((0:Int)≤(s:Int))&&decide ((s:Int)<4294967296)&&Nat.ble l.length 4611686018427387904)=true by simp;omega,ah,I.rdN.2]
  simp only
  have:∀l:List Nat,(∀b∈l,b<256)→bytesIn (ofBytes l)=some l:=by
   intro l
   induction l with
   |nil=>intro _;rfl
   |cons b l ih =>
    intro hb
    grind[ofBytes,bytesIn,List.mem_cons_self]
  rw[this l I.1]
  simp only[J]
end
section
variable {told:cJ} {p:Nat}
theorem jo (J:W told)(s:Sat h (X::S))(I:cN X (cP x l))(hl:l.length<1073741824):
  Call ⟨Tryz.prog,told⟩ 62 [x] h fun v h'=>Sat h' (aZ v l::X::S):=by
 refine Call.of_wp (J.free _ rfl) Tryz.func62 rfl rfl (zK 7 rfl (zo rfl (aP rfl rfl rfl (aW aJ (s.aG (k:=0) rfl I))) (au.any rfl rfl rfl (OpR.uF rfl s rfl rfl rfl rfl hl) ?_)))
 intro v h s
 refine zm rfl (au.any rfl rfl rfl (OpR.rJ rfl s I rfl rfl rfl rfl (by simp;omega)) ?_)
 intro v h s
 exact zk 2 rfl (WP.ret ⟨aa,_,rfl,s⟩)
theorem xV (J:W told)(s:Sat h (X::S))(I:cN X (cP x l))(hl:l.length<1073741824):
  Call ⟨Tryz.prog,told⟩ 164 [x] h fun v h'=>Sat h' (aZ v l::X::S):=by
 refine Call.of_wp (J.free _ rfl) Tryz.func164 rfl rfl (zK 7 rfl (zo rfl (aP rfl rfl rfl (aW aJ (s.aG (k:=0) rfl I))) (au.any rfl rfl rfl (OpR.uF rfl s rfl rfl rfl rfl hl) ?_)))
 intro v h s
 refine zm rfl (au.any rfl rfl rfl (OpR.rJ rfl s I rfl rfl rfl rfl (by simp;omega)) ?_)
 intro v h s
 exact zk 2 rfl (WP.ret ⟨aa,_,rfl,s⟩)
theorem kZ (J:W told)(s:Sat h (X::S))(I:cN X (cP x l))(hl:l.length<1073741824):
  Call ⟨Tryz.prog,told⟩ 67 [x] h fun v h'=>Sat h' (aZ v l::X::S):=by
 refine Call.of_wp (J.free _ rfl) Tryz.func67 rfl rfl (zK 7 rfl (zo rfl (aP rfl rfl rfl (aW aJ (s.aG (k:=0) rfl I))) (au.any rfl rfl rfl (OpR.uF rfl s rfl rfl rfl rfl hl) ?_)))
 intro v h s
 refine zm rfl (au.any rfl rfl rfl (OpR.rJ rfl s I rfl rfl rfl rfl (by simp;omega)) ?_)
 intro v h s
 exact zk 2 rfl (WP.ret ⟨aa,_,rfl,s⟩)
theorem xW (I:W told)(s:Sat h (aO p δ::S)): Call ⟨Tryz.prog,told⟩ 132 [.ptr p 0] h fun v h'=>v=.int .i64 (δ.aq.length:Int)∧h'=h:=by
 obtain⟨pg,wt,nw,lg,mk,J,tl,ops,s⟩:=bE.1 s
 obtain⟨id,cs,rfl,s'⟩:=gA.1 (s.ae [1])
 exact Call.of_wp (I.free _ rfl) Tryz.func132 rfl rfl (zK 8 rfl (zY s 0 m7 rW rfl (zo rfl (aP rfl rfl rfl (p_ rfl gz)) (zk 2 rfl (WP.ret ⟨aa,_,rfl,rfl,rfl⟩)))))
theorem Qi (hT:W told){n:Int}(s:Sat h (aO p δ::S)): Call ⟨Tryz.prog,told⟩ 193 [.ptr p 0,.int .i64 n] h fun v h'=>h'=h∧((0≤n∧n<δ.aq.length∧v=.bool true)∨(¬(0≤n∧n<δ.aq.length)∧v=.bool false)):=by
 obtain⟨pg,wt,nw,lg,mk,tn,tl,ops,s⟩:=bE.1 s
 obtain⟨id,cs,rfl,s'⟩:=gA.1 (s.ae [1])
 refine Call.of_wp (hT.free _ rfl) Tryz.func193 rfl rfl (zK 7 rfl ?_)
 refine zd rfl (ay rfl rfl jg) ?_ ?_
 ·intro J
  have J:0≤n:=by simpa using J
  refine zk 4 rfl (zY s 0 m7 rW rfl (zo rfl (aP rfl rfl rfl (p_ rfl gz)) ?_))
  refine zd rfl (ay rfl rfl aT) ?_ ?_
  ·intro I
   have I:n<δ.aq.length:=by simpa using I
   exact zk 3 rfl (WP.ret ⟨aa,_,rfl,rfl,.inl ⟨J,I,rfl⟩⟩)
  ·intro I
   have I:¬ n<δ.aq.length:=by simpa using I
   exact zk 3 rfl (WP.ret ⟨aa,_,rfl,rfl,.inr ⟨fun h=>I h.2,rfl⟩⟩)
 ·intro J
  have J:¬ 0≤n:=by simpa using J
  exact zk 11 rfl (WP.ret ⟨aa,_,rfl,rfl,.inr ⟨fun h=>J h.1,rfl⟩⟩)
def Dk.VZ (δ:Dk): Nat:=δ.room
def Dk.xX (δ:Dk): Nat:=δ.bu
def Dk.dh (δ:Dk): Dk:={ δ with aU:=if 0<δ.aU then δ.aU-1 else δ.aU }
def Dk.die (δ:Dk): Dk:={ δ with dead:=true }
theorem qf (hT:W told)(s:Sat h (aO p δ::S))(hf:δ.aU<4294967296):
  Call ⟨Tryz.prog,told⟩ 188 [.ptr p 0] h fun v h'=>(δ.aU=0∧v=.bool false∧Sat h' (aO p δ.die::S))∨(δ.aU≠0∧v=.bool true∧Sat h' (aO p δ.dh::S)):=by
 obtain⟨pg,wt,nw,lg,mk,tn,tl,ops,s⟩:=bE.1 s
 refine Call.of_wp (hT.free _ rfl) Tryz.func188 rfl rfl (zK 9 rfl (zY s 0 Bv dJ rfl ?_))
 refine zd rfl (ay rfl rfl dm) ?_ ?_
 ·intro J
  refine zk 6 rfl (zf rfl (j8 _ _) ?_)
  refine zS rfl (by exact s.dK (k:=0) rfl yR rfl (by decide) rfl rfl) (fun h s => ?_)
  refine zk 5 rfl (WP.ret ⟨aa,_,rfl,?_⟩)
  have J:δ.aU=0:=by simpa using J
  exact .inl ⟨J,rfl,bE.2 ⟨pg,wt,nw,lg,mk,tn,tl,ops,s⟩⟩
 ·intro J
  have J:δ.aU≠0:=by simpa using J
  refine zk 8 rfl (zY s 0 Bv dJ rfl ?_)
  refine zd rfl (ay rfl rfl fN) ?_ ?_
  ·intro I
   have I:0<δ.aU:=by simpa using I
   refine zk 5 rfl (zY s 0 Bv dJ rfl (zb rfl (by exact jI (aA (by omega) (by omega))) ?_))
   refine zn rfl (zf rfl (Bv _ _) ?_)
   refine zS rfl (by exact s.dK (k:=0) rfl lR rfl (by decide) rfl rfl) (fun h s => ?_)
   refine zk 5 rfl (zY s 0 Bw dJ rfl (zb rfl (by rfl) ?_))
   refine zn rfl (zf rfl (Bw _ _) ?_)
   refine zS rfl (by exact s.dK (k:=0) rfl lR rfl (by decide) rfl rfl) (fun h s => ?_)
   exact zk 5 rfl (WP.ret ⟨aa,_,rfl,.inr ⟨J,rfl,bE.2 ⟨pg,wt,nw,lg,mk,tn,tl,_,by simp only[Dk.dh,aC I];exact s⟩⟩⟩)
  ·intro I
   have I:¬ 0<δ.aU:=by simpa using I
   refine zk 7 rfl (zY s 0 Bw dJ rfl (zb rfl (by rfl) ?_))
   refine zn rfl (zf rfl (Bw _ _) ?_)
   refine zS rfl (by exact s.dK (k:=0) rfl lR rfl (by decide) rfl rfl) (fun h s => ?_)
   exact zk 5 rfl (WP.ret ⟨aa,_,rfl,.inr ⟨J,rfl,bE.2 ⟨pg,wt,nw,lg,mk,tn,tl,_,by simp only[Dk.dh,ak I];exact s⟩⟩⟩)
def Dk.at (δ:Dk)(n:Int): List Nat:=match lookL n δ.now with
 |some b=>b
 |none=>match δ.aq[n.toNat]? with
  |some (some b)=>b
  |_=>List.replicate 512 0
theorem NY {v:V}{m:List (Option (List Nat))}(s:Sat h (oT v m::S))(hi:i<m.length):
  ∃id u,v=.sl id 0 m.length (.exact m.length)∧(∀(P:Program) (t:TypeId),isAggT P t=some false→loadV P h t (.ptr id i)=some u)∧Sat h (kY u m[i]::oT v m::S):=by
 obtain⟨id,cs,rfl,s1⟩:=gA.1 s
 obtain⟨a,b,q1,q2,I⟩:=s1.at (k:=1) rfl
 have hl:=rK I
 have hu:cs[i]?=some (cs[i]'(by omega)):=bw _
 have s2:Sat h (each kY cs m::pt id (.cells m.length cs false)::S):=s1.ae [1]
 have J:=s2.dup (bg.each bg.kY cs m)
 have s4:Sat h (kY (cs[i]'(by omega)) m[i]::each kY cs m::pt id (.cells m.length cs false)::S):=J.iu fun a b h=>CN h hu (bw hi)
 refine⟨id,cs[i]'(by omega),rfl,fun P t ht=>Vx ht (s1.row (k:=0) rfl) (by rw[gH,hu]),?_⟩
 have s5:Sat h (pt id (.cells m.length cs false)::each kY cs m::kY (cs[i]'(by omega)) m[i]::S):=s4.ae [2,1]
 exact(gA.2 ⟨id,cs,rfl,s5⟩:Sat h (oT _ m::kY (cs[i]'(by omega)) m[i]::S)).ae [1]
theorem Tm (hT:W told){n:Int}(s:Sat h (aO p δ::S))(hl:(δ.at n).length=512): Call ⟨Tryz.prog,told⟩ 167 [.ptr p 0,.int .i64 n] h fun v h' =>
  (δ.dead=true∧v=.aQ [.aY,.int .i64 9]∧Sat h' (aO p δ::S)) ∨
  (δ.dead=false∧¬(0≤n∧n<δ.aq.length)∧v=.aQ [.aY,.int .i64 1]∧Sat h' (aO p δ::S)) ∨
  (δ.dead=false∧0≤n∧n<δ.aq.length∧∃b,v=.aQ [b,.int .i64 0]∧Sat h' (aZ b (δ.at n)::aO p δ::S)):=by
 have s0:=s
 obtain⟨pg,wt,nw,lg,mk,tn,tl,ops,s⟩:=bE.1 s
 refine Call.of_wp (hT.free _ rfl) Tryz.func167 rfl rfl (zK 6 rfl (WP.block (zK 4 rfl (zY s 0 j8 kV rfl (zk 2 rfl ?_)))))
 refine WP.split rfl ?_ ?_
 ·intro hd
  exact zK 5 rfl (WP.ret ⟨aa,_,rfl,.inl ⟨hd,rfl,s0⟩⟩)
 ·intro hd
  refine zK 4 rfl (zc rfl (Qi hT s0) ?_)
  rintro v h' ⟨rfl,(⟨J,yS,rfl⟩|⟨hn,rfl⟩)⟩
  ·skip
   refine zo rfl (eU rfl rfl) (za rfl (zv (zj rfl (WP.skip (zg rfl (zk 2 rfl (zf rfl (Bu _ _) (zl rfl (by exact s.ld (k:=0) rfl jD rfl) ?_))))))))
   refine zm rfl ?_
   have s1:Sat h' (ng (fun v b=>.cD v b) nw δ.now::pt p (.cells 12 (w9 δ.room pg wt nw lg δ.bu mk δ.aU ops δ.dead tn tl) false)::oT pg δ.aq::BH wt δ.waiting::aZ lg δ.log::Cc mk δ.mark::BI tn δ.eV::Cc tl δ.tail::S):=s.ae [3]
   rcases iE (n:=n) (fun _ _=>bg.cD _ _) s1 kX br o8 with⟨g1,g2,_⟩|⟨u,b,g1,g2,_,s2⟩
   ·refine au.op rfl rfl rfl (fQ rfl rfl g2) ?_
    refine zk 10 rfl (zo rfl (eU rfl rfl) (zk 5 rfl (zY s 0 m7 rW rfl (zm rfl ?_))))
    have hi:n.toNat<δ.aq.length:=by omega
    obtain⟨id,u,rfl,g3,s3⟩:=NY (s.ae [1]) hi
    refine zo rfl (c8 (r:=.ptr id n.toNat) rfl rfl (by rw[VC,show(decide (0≤n)&&decide (n<((δ.aq.length:Nat):Int)))=true by simp;omega,ah];simp)) ?_
    refine zl rfl (g3 _ _ bJ) (zk 6 rfl ?_)
    have I:δ.at n=match δ.aq[n.toNat] with|some b=>b|none=>List.replicate 512 0:=by
     simp only[Dk.at,g1,bw hi]
     cases δ.aq[n.toNat]<;>rfl
    cases hp:δ.aq[n.toNat] with
    |none =>
     rw[hp] at s3 I
     have I:δ.at n=List.replicate 512 0:=I
     obtain⟨rfl,_⟩:=ej.1 s3
     refine zt rfl ((by exact ay rfl rfl (by simp only[binV,eqV,aJ];rfl))) (rfl) ?_
     refine zk 4 rfl (au.any rfl rfl rfl (OpR.nm rfl s0 rfl rfl rfl rfl (by decide)) ?_)
     intro v h s
     exact zk 3 rfl (WP.ret ⟨aa,_,rfl,.inr (.inr ⟨hd,J,yS,v,rfl,by rw[I];exact s⟩)⟩)
    |some b =>
     rw[hp] at s3 I
     have I:δ.at n=b:=I
     have s4:Sat h' (aI.an (.pu (u≠.aY)) (.cD u b)::oT _ δ.aq::_):=s3
     have hu:u≠.aY:=by
      obtain⟨a,b,q1,q2,q3⟩:=s4.at (k:=0) rfl
      exact q3.1
     have s5:Sat h' (.cD u b::aO p δ::S):=by
      have s6:=s4.iu (B:=.cD u b) fun a b h=>h.2
      exact(bE.2 ⟨_,wt,nw,lg,mk,tn,tl,ops,s6.ae [2,1,1,1,1,1,1,1]⟩:Sat h' (aO p δ::.cD u b::S)).ae [1]
     have yT:∃a b c d,u=.sl a b c d:=by
      rcases (s5.aG (k:=0) rfl (dy _ _)).2 with⟨_,e⟩|⟨a,b,c,_,_,_,e,_⟩
      ·rw[I,e] at hl;simp at hl
      ·exact⟨_,_,_,_,e⟩
     obtain⟨a,b',c,d,rfl⟩:=yT
     refine zh rfl ((by exact ay rfl rfl (by simp only[binV,eqV,aJ];rfl))) (rfl) ?_
     refine zk 6 rfl (zc rfl (jo hT s5 (dy _ _) (by rw[←I,hl];decide)) ?_)
     intro v h s
     exact zk 3 rfl (WP.ret ⟨aa,_,rfl,.inr (.inr ⟨hd,J,yS,v,rfl,by rw[I];exact s.del 1⟩)⟩)
   ·skip
    refine zo rfl (fQ rfl rfl g2) (zk 10 rfl (zo rfl (eU rfl rfl) (zk 7 rfl ?_)))
    have I:δ.at n=b:=by simp only[Dk.at,g1]
    have yT:∃a b c d,u=.sl a b c d:=by
     rcases (s2.aG (k:=0) rfl (dy _ _)).2 with⟨_,e⟩|⟨a,b,c,_,_,_,e,_⟩
     ·rw[I,e] at hl;simp at hl
     ·exact⟨_,_,_,_,e⟩
    obtain⟨a,b',c,d,rfl⟩:=yT
    refine zh rfl ((by exact ay rfl rfl (by simp only[binV,eqV,aJ];rfl))) (rfl) ?_
    refine zk 6 rfl (zc rfl (jo hT s2 (dy _ _) (by rw[←I,hl];decide)) ?_)
    intro v h s
    refine zk 3 rfl (WP.ret ⟨aa,_,rfl,?_⟩)
    have s:=bE.2 ⟨pg,wt,nw,lg,mk,tn,tl,ops,s.ae [3,3,3,2,2,2,2,2]⟩
    exact .inr (.inr ⟨hd,J,yS,v,rfl,by rw[I];exact(s.del 2).ae [1,0]⟩)
  ·skip
   exact zo rfl (eU rfl rfl) (zk 8 rfl (WP.ret ⟨aa,_,rfl,.inr (.inl ⟨hd,hn,rfl,s0⟩)⟩))
theorem Tn (I:W told)(s:Sat h (aO p δ::S)): Call ⟨Tryz.prog,told⟩ 142 [.ptr p 0] h fun v h'=>v=.int .i64 (δ.VZ:Int)∧h'=h:=by
 obtain⟨pg,wt,nw,lg,mk,J,tl,ops,s⟩:=bE.1 s
 exact Call.of_wp (I.free _ rfl) Tryz.func142 rfl rfl (zK 8 rfl (zY s 0 Fx dJ rfl (zk 2 rfl (WP.ret ⟨aa,_,rfl,rfl,rfl⟩))))
theorem Ch (I:W told)(s:Sat h (aO p δ::S)): Call ⟨Tryz.prog,told⟩ 127 [.ptr p 0] h fun v h'=>v=.int .i64 (δ.xX:Int)∧h'=h:=by
 obtain⟨pg,wt,nw,lg,mk,J,tl,ops,s⟩:=bE.1 s
 exact Call.of_wp (I.free _ rfl) Tryz.func127 rfl rfl (zK 8 rfl (zY s 0 tY dJ rfl (zk 2 rfl (WP.ret ⟨aa,_,rfl,rfl,rfl⟩))))
theorem IW (I:W told)(s:Sat h (aO p δ::S)): Call ⟨Tryz.prog,told⟩ 17 [.ptr p 0] h fun v h'=>v=.bool δ.dead∧h'=h:=by
 obtain⟨pg,wt,nw,lg,mk,J,tl,ops,s⟩:=bE.1 s
 exact Call.of_wp (I.free _ rfl) Tryz.func17 rfl rfl (zK 8 rfl (zY s 0 j8 kV rfl (zk 2 rfl (WP.ret ⟨aa,_,rfl,rfl,rfl⟩))))
theorem GH (J:W told)(s:Sat h (aO p δ::S))(hf:δ.aU<4294967296): Call ⟨Tryz.prog,told⟩ 128 [.ptr p 0] h fun v h' =>
  (δ.dead=true∧v=.int .i64 9∧Sat h' (aO p δ::S))∨(δ.dead=false∧δ.aU=0∧v=.int .i64 9∧Sat h' (aO p δ.die::S)) ∨
  (δ.dead=false∧δ.aU≠0∧v=.int .i64 0∧Sat h' (aO p { δ.dh with bu:=δ.log.length }::S)):=by
 have s0:=s
 obtain⟨pg,wt,nw,lg,mk,tn,tl,ops,s⟩:=bE.1 s
 refine Call.of_wp (J.free _ rfl) Tryz.func128 rfl rfl (zK 9 rfl (zf rfl (j8 _ _) ?_))
 refine zd rfl (o_load rfl (s.ld (k:=0) rfl kV rfl)) ?_ ?_
 ·intro hd
  exact zk 11 rfl (WP.ret ⟨aa,_,rfl,.inl ⟨hd,rfl,s0⟩⟩)
 ·intro hd
  refine zk 2 rfl (zc rfl (qf J s0 hf) ?_)
  rintro v h (⟨I,rfl,s⟩|⟨I,rfl,s⟩)
  ·skip
   exact zo rfl (eU rfl rfl) (zk 7 rfl (WP.ret ⟨aa,_,rfl,.inr (.inl ⟨hd,I,rfl,s⟩)⟩))
  ·skip
   obtain⟨pg,wt,nw,lg,mk,tn,tl,ops,s⟩:=bE.1 s
   dsimp only[Dk.dh] at s
   refine zo rfl (eU rfl rfl) (zk 9 rfl (zY s 0 j7 bJ rfl (zo rfl (aP rfl rfl rfl (aW aJ (s.aG (k:=4) rfl (aN _ _)))) (zn rfl (zf rfl (tY _ _) ?_)))))
   refine zS rfl (by exact s.dK (k:=0) rfl lR rfl (by decide) rfl rfl) (fun h s => ?_)
   exact zk 5 rfl (WP.ret ⟨aa,_,rfl,.inr (.inr ⟨hd,I,rfl,bE.2 ⟨pg,wt,nw,lg,mk,tn,tl,ops,s⟩⟩)⟩)
theorem NZ (hT:W told)(s:Sat h (aO p δ::X::S))(hX:cN X (cP x b))(hb:b.length<1073741824)(hf:δ.aU<4294967296)(hl:δ.log.length≤4294967296)(hr:δ.room≤4294967296):
  Call ⟨Tryz.prog,told⟩ 174 [.ptr p 0,x] h fun v h' =>
  (δ.dead=true∧v=.int .i64 9∧Sat h' (aO p δ::X::S))∨(δ.dead=false∧δ.room<δ.log.length+b.length∧v=.int .i64 7∧Sat h' (aO p δ::X::S)) ∨
  (δ.dead=false∧δ.log.length+b.length≤δ.room∧δ.aU=0∧v=.int .i64 9∧Sat h' (aO p { δ.die with tail:=b }::X::S)) ∨
  (δ.dead=false∧δ.log.length+b.length≤δ.room∧δ.aU≠0∧v=.int .i64 0∧Sat h' (aO p { δ.dh with log:=δ.log++b }::X::S)):=by
 have s0:=s
 obtain⟨pg,wt,nw,lg,mk,tn,tl,ops,s⟩:=bE.1 s
 refine Call.of_wp (hT.free _ rfl) Tryz.func174 rfl rfl (zK 5 rfl (WP.block (zK 4 rfl (zf rfl (j8 _ _) ?_))))
 refine zd rfl (o_load rfl (s.ld (k:=0) rfl kV rfl)) ?_ ?_
 ·intro hd
  exact zk 7 rfl (WP.ret ⟨aa,_,rfl,.inl ⟨hd,rfl,s0⟩⟩)
 ·intro hd
  refine zk 4 rfl (WP.drawn [af,af,af,af,af,af,af,af,af,af,af,af,af,af] rfl (by kernel_rfl) (by kernel_rfl) ?_)
  refine zM rfl (zO rfl (aP rfl rfl rfl (aW aJ (s.aG (k:=8) rfl hX))) (zM rfl (zN rfl (zF rfl (Fx _ _) (zL rfl (s.ld (k:=0) rfl dJ rfl) (zM rfl (zN rfl (zF rfl (j7 _ _) (zL rfl (s.ld (k:=0) rfl bJ rfl) (zO rfl (aP rfl rfl rfl (aW aJ (s.aG (k:=4) rfl (aN _ _)))) (zO rfl (ay rfl rfl (by exact jI (aA (by omega) (by omega)))) ?_)))))))))))
  refine az.Zy rfl rfl rfl rfl (ay rfl rfl fN) ?_ ?_
  ·intro I
   have I:δ.room<δ.log.length+b.length:=by simp at I;omega
   refine zA rfl ?_
   refine az.nil ⟨⟨aa,aa,aa,aa,aa,aa,aa,aa,aa,aa,aa,aa,aa,aa,aa⟩,?_⟩
   exact zK 5 rfl (WP.ret ⟨aa,_,rfl,.inr (.inl ⟨hd,I,rfl,s0⟩)⟩)
  ·intro I
   have I:δ.log.length+b.length≤δ.room:=by simp at I;omega
   refine zA rfl ?_
   refine az.nil ⟨⟨aa,aa,aa,aa,aa,aa,aa,aa,aa,aa,aa,aa,aa,aa,aa⟩,?_⟩
   refine zK 4 rfl (zc rfl (qf hT s0 hf) ?_)
   rintro v h (⟨h0,rfl,s⟩|⟨h0,rfl,s⟩)
   ·skip
    refine zo rfl (eU rfl rfl) (zk 7 rfl (zc rfl (jo hT (s.ae [1]) hX hb) ?_))
    intro v h s
    have s:=(s.gu).ae [2,0,0]
    obtain⟨pg,wt,nw,lg,mk,tn,tl,ops,s⟩:=bE.1 s
    have J:=(s.aG (k:=8) rfl (dy _ _)).cells
    refine zn rfl (zf rfl (CH _ _) (zS rfl (s.dK (k:=0) rfl gY rfl (by decide) J.1 J.2) ?_))
    intro h s
    exact zk 5 rfl (WP.ret ⟨aa,_,rfl,.inr (.inr (.inl ⟨hd,I,h0,rfl,bE.2 ⟨pg,wt,nw,lg,mk,tn,v,ops,s.del 7⟩⟩))⟩)
   ·skip
    obtain⟨pg,wt,nw,lg,mk,tn,tl,ops,s⟩:=bE.1 s
    dsimp only[Dk.dh] at s
    refine zo rfl (eU rfl rfl) (za rfl (zv (zj rfl (WP.skip (zg rfl (zk 3 rfl (zf rfl (j7 _ _) (zl rfl (by exact s.ld (k:=0) rfl bJ rfl) ?_))))))))
    refine zm rfl (au.any rfl rfl rfl (OpR.rJ rfl (s.ae [4,7]) hX rfl rfl rfl rfl (by show δ.log.length+_≤_;omega)) ?_)
    intro v h s
    have J:=(s.buf (k:=0) rfl).view.cells
    refine zn rfl (zf rfl (j7 _ _) (zS rfl (s.dK (k:=2) rfl gY rfl (by decide) J.1 J.2) ?_))
    intro h s
    exact zk 5 rfl (WP.ret ⟨aa,_,rfl,.inr (.inr (.inr ⟨hd,I,h0,rfl,bE.2 ⟨pg,wt,nw,v,mk,tn,tl,ops,s.ae [2,2,2,2,0,1,1,1]⟩⟩))⟩)
end
section
variable {told:cJ} {p:Nat}
def Dk.wr (δ:Dk)(n:Int)(b:List Nat): Dk:={ δ.dh with waiting:=δ.waiting++[(n.toNat,b)],now:=b8 n b δ.now }
theorem Xn : ∃i,Tryz.prog.info? 128=some i∧i.size=2∧i.bytes=32 :=
 ⟨_,(show Tryz.prog.info? 128=some ((Tryz.prog.info? 128).getD default) by kernel_rfl),by kernel_rfl,by kernel_rfl⟩
theorem Sat.ZO {m:List Wr}{u:V}{x:Wr}(s:Sat h (.cD u x.2::uH cs m::S))(hu:u≠.aY): Sat h (uH (cs++[.int .i64 (x.1:Int),u]) (m++[x])::S) :=
 s.two (bg.cD _ _) (bg.wr _ _) fun _ _ I J=>Xl J hu I
set_option maxHeartbeats 1000000 in
theorem Qj (hT:W told){n:Int}(s:Sat h (aO p δ::X::S))(hX:cN X (cP x b))(hb:b.length<1073741824)(hf:δ.aU<4294967296)(hw:δ.waiting.length≤268435456):
  Call ⟨Tryz.prog,told⟩ 133 [.ptr p 0,.int .i64 n,x] h fun v h' =>
  (δ.dead=true∧v=.int .i64 9∧Sat h' (aO p δ::X::S)) ∨
  (δ.dead=false∧¬(0≤n∧n<δ.aq.length∧b.length=512)∧v=.int .i64 1∧Sat h' (aO p δ::X::S)) ∨
  (δ.dead=false∧0≤n∧n<δ.aq.length∧b.length=512∧δ.aU=0∧v=.int .i64 9∧Sat h' (aO p { δ.die with eV:=some (n.toNat,b) }::X::S)) ∨
  (δ.dead=false∧0≤n∧n<δ.aq.length∧b.length=512∧δ.aU≠0∧v=.int .i64 0∧Sat h' (aO p (δ.wr n b)::X::S)):=by
 have J:=s
 obtain⟨pg,wt,nw,lg,mk,tn,tl,ops,s⟩:=bE.1 s
 refine Call.of_wp (hT.free _ rfl) Tryz.func133 rfl rfl (zK 5 rfl (WP.block (zK 4 rfl (zf rfl (j8 _ _) ?_))))
 refine zd rfl (o_load rfl (s.ld (k:=0) rfl kV rfl)) ?_ ?_
 ·intro hd
  exact zk 7 rfl (WP.ret ⟨aa,_,rfl,.inl ⟨hd,rfl,J⟩⟩)
 ·intro hd
  refine zk 7 rfl (zc rfl (Qi hT J) ?_)
  rintro v h' ⟨rfl,(⟨vo,yS,rfl⟩|⟨hn,rfl⟩)⟩
  ·skip
   refine zo rfl (eU rfl rfl) (zk 2 rfl (zo rfl (aP rfl rfl rfl (aW aJ (s.aG (k:=8) rfl hX))) ?_))
   refine zd rfl (ay rfl rfl aD) ?_ ?_
   ·intro I
    have I:b.length≠512:=by simp at I;omega
    exact zk 8 rfl (WP.ret ⟨aa,_,rfl,.inr (.inl ⟨hd,fun q=>I q.2.2,rfl,J⟩)⟩)
   ·intro I
    have I:b.length=512:=by simp at I;omega
    refine zk 2 rfl (zv (zj rfl (WP.skip (zg rfl (zk 2 rfl (zc rfl (jo hT (J.ae [1]) hX hb) ?_))))))
    intro u h s
    obtain⟨kz,_,cap,_,rfl,_⟩:=s.fU (by omega)
    have s:=s.gu
    have hnc:((n.toNat:Nat):Int)=n:=by omega
    refine zo rfl (cj rfl (by rw[aba];rfl)) ?_
    refine au.bD s rfl rfl rfl (bI HM) (fun p7 h s => ?_)
    refine zS rfl (s.eS (j:=0) rfl DJ rfl rfl) (fun h s => ?_)
    refine zk 5 rfl (zc rfl (qf hT (s.ae [3]) hf) ?_)
    rintro v h (⟨h0,rfl,s⟩|⟨h0,rfl,s⟩)
    ·skip
     obtain⟨pg,wt,nw,lg,mk,tn,tl,ops,s⟩:=bE.1 s
     refine zo rfl (eU rfl rfl) (zk 6 rfl (zf rfl (uD _ _) ?_))
     refine zS rfl (by exact s.dK (k:=0) rfl aa8 rfl (by decide) rfl rfl) (fun h s => ?_)
     dsimp only[w9,V.cells,List.length_cons,List.length_nil,Nat.reduceAdd,aE,bringA,List.take,List.drop,List.cons_append,List.nil_append,setA,List.set] at s
     refine zk 5 rfl (WP.ret ⟨aa,_,rfl,?_⟩)
     have s1:=s.ae [8,8,8]
     have s2:Sat h (BI _ (some (n.toNat,b))::_):=gK.2 ⟨_,gK.2 ⟨_,aM.2 (ej.2 ⟨rfl,by rw[hnc];exact s1⟩)⟩⟩
     have s3:=(s2.del 8).ae [2,2,2,2,2,2,0,1,0]
     exact .inr (.inr (.inl ⟨hd,vo,yS,I,h0,rfl,bE.2 ⟨_,_,_,_,_,_,_,_,s3⟩⟩))
    ·skip
     obtain⟨pg,wt,nw,lg,mk,tn,tl,ops,s⟩:=bE.1 s
     dsimp only[Dk.dh] at s
     obtain⟨cs,sw⟩:=mF.1 (s.ae [2])
     have s:=sw.ae [2,8,0,0]
     dsimp only[w9,V.cells,List.length_cons,List.length_nil,Nat.reduceAdd,aE,bringA,List.take,List.drop,List.cons_append,List.nil_append,setA,getA] at s
     have J:=s
     have Qk:=(s.iz (j:=2) rfl).2.2
     refine zo rfl (eU rfl rfl) (zk 4 rfl (WP.drawn [some (0,3),some (0,2),some (0,2),some (0,2),some (0,2),af,af,af,af,af,af] rfl (by kernel_rfl) (by kernel_rfl) ?_))
     refine zM rfl (zM rfl (zN rfl (zF rfl (tX _ _) (zL rfl (s.ld (k:=0) rfl DI rfl) (zL rfl (s.cV (k:=1) rfl VH DJ) ?_)))))
     obtain⟨i1,kA,jE,qg⟩:=Xn
     obtain⟨sv,h1,e1,s1⟩:=kI (P:=Tryz.prog) (x:=.agg [.int .i64 n,.sl kz 0 b.length cap]) s Ai HM DJ rfl (by decide) (by decide) rfl rfl
     dsimp only[V.cells] at s1
     refine az.any rfl rfl rfl rfl (OpR.of (R:=fun v h'=>v=sv∧h'=h1) (oF rfl e1) ⟨rfl,rfl⟩) ?_
     rintro v h' ⟨rfl,rfl⟩
     have jO:cs.length=δ.waiting.length*2:=by
      obtain⟨a,b,q1,q2,q3⟩:=s.at (k:=3) rfl
      exact BG q3
     obtain⟨wt',h2,e2,s2⟩:=gU (s1.ae [3,0]) Ai kA HM jE (by omega) rfl (by decide) (by simp only[V.cells,bz,cG];omega)
     dsimp only[aE,bringA] at s2
     refine az.any rfl rfl rfl rfl (OpR.of (R:=fun v h'=>v=wt'∧h'=h2) (mI rfl rfl e2) ⟨rfl,rfl⟩) ?_
     rintro v h' ⟨rfl,rfl⟩
     have hv:=s2.iz (j:=0) rfl
     refine zN rfl (zF rfl (tX _ _) (az.gh rfl rfl rfl (OpR.fM rfl rfl rfl (s2.dK (k:=2) rfl VD rfl (by decide) hv.1 hv.2.1)) ?_))
     rintro v h ⟨rfl,s⟩
     dsimp only[Nat.reduceAdd,List.set,setA] at s
     refine az.nil ⟨⟨fun _ _=>.inr ⟨rfl,⟨_,bn rfl⟩,aS _ rfl⟩,fun _ _=>.inr ⟨rfl,⟨_,bn rfl⟩,aS _ rfl⟩,fun _ _=>.inr ⟨rfl,⟨_,kT rfl⟩,aS _ rfl⟩,fun _ _=>.inr ⟨rfl,⟨_,jH rfl (tX _ _)⟩,aS _ rfl⟩,dZ (.inr ⟨rfl,⟨_,o_load rfl (J.ld (k:=0) rfl DI rfl)⟩,Qk⟩) (.inr ⟨rfl,⟨_,o_load rfl (s1.ld (k:=1) rfl DI rfl)⟩,Qk⟩),aa,aa,aa,aa,aa,aa,aa⟩,?_⟩
     refine zw (WP.drawn [af,af,af,af,af,af,af,af] rfl (by kernel_rfl) (by kernel_rfl) ?_)
     refine zM rfl (zN rfl (zF rfl (Bu _ _) (zL rfl (s.ld (k:=2) rfl jD rfl) (zM rfl (zF rfl (FB _ _) (zL rfl (s.ld (k:=3) rfl bJ rfl) (az.gh rfl rfl rfl (OpR.mapUpdate rfl rfl rfl rfl (lH (f:=fun v b=>aI.cD v b) (x:=b) (fun _ _=>bg.cD _ _) (((s.ae [11]).dup (bg.cD _ _)).ae [0,7]) kX br)) ?_)))))))
     intro v h s
     dsimp only[aE,bringA] at s
     refine az.nil ⟨⟨aa,aa,aa,aa,aa,aa,aa,aa,aa⟩,?_⟩
     refine zK 4 rfl (WP.ret ⟨aa,_,rfl,?_⟩)
     have s1:=(s.ae [1,5]).ZO (x:=(n.toNat,b)) (by simp)
     rw[hnc] at s1
     have s2:=((mF.2 ⟨_,s1.ae [2,0]⟩).del 4).del 2
     exact .inr (.inr (.inr ⟨hd,vo,yS,I,h0,rfl,bE.2 ⟨_,_,_,_,_,_,_,_,s2.ae [2,2,0,0,0,0,0,0,0]⟩⟩))
  ·skip
   exact zo rfl (eU rfl rfl) (zk 12 rfl (WP.ret ⟨aa,_,rfl,.inr (.inl ⟨hd,fun q=>hn ⟨q.1,q.2.1⟩,rfl,J⟩)⟩))
theorem Xo (I:W told)(s:Sat h (aO p δ::S))(J:δ.log.length<1073741824): Call ⟨Tryz.prog,told⟩ 124 [.ptr p 0] h fun v h' =>
  (δ.dead=true∧v=.aQ [.aY,.int .i64 9]∧Sat h' (aO p δ::S))∨(δ.dead=false∧∃b,v=.aQ [b,.int .i64 0]∧Sat h' (aZ b δ.log::aO p δ::S)):=by
 have s0:=s
 obtain⟨pg,wt,nw,lg,mk,tn,tl,ops,s⟩:=bE.1 s
 refine Call.of_wp (I.free _ rfl) Tryz.func124 rfl rfl (zK 10 rfl (zf rfl (j8 _ _) ?_))
 refine zd rfl (o_load rfl (s.ld (k:=0) rfl kV rfl)) ?_ ?_
 ·intro hd
  exact zk 7 rfl (WP.ret ⟨aa,_,rfl,.inl ⟨hd,rfl,s0⟩⟩)
 ·intro hd
  refine zk 7 rfl (zY s 0 j7 bJ rfl (zc rfl (jo I (s.ae [4]) (aN _ _) J) ?_))
  intro v h s
  exact zk 3 rfl (WP.ret ⟨aa,_,rfl,.inr ⟨hd,v,rfl,(bE.2 ⟨pg,wt,nw,lg,mk,tn,tl,ops,s.ae [2,2,2,2,1,1,1,1,0]⟩).ae [1]⟩⟩)
theorem DV (I:W told)(s:Sat h (aO p δ::S))(hl:δ.mark.length≤64): Call ⟨Tryz.prog,told⟩ 123 [.ptr p 0] h fun v h' =>
  (δ.dead=true∧v=.aQ [.aY,.int .i64 9]∧Sat h' (aO p δ::S))∨(δ.dead=false∧∃b,v=.aQ [b,.int .i64 0]∧Sat h' (aZ b δ.mark::aO p δ::S)):=by
 have J:=s
 obtain⟨pg,wt,nw,lg,mk,tn,tl,ops,s⟩:=bE.1 s
 refine Call.of_wp (I.free _ rfl) Tryz.func123 rfl rfl (zK 10 rfl (zf rfl (j8 _ _) ?_))
 refine zd rfl (o_load rfl (s.ld (k:=0) rfl kV rfl)) ?_ ?_
 ·intro hd
  exact zk 7 rfl (WP.ret ⟨aa,_,rfl,.inl ⟨hd,rfl,J⟩⟩)
 ·intro hd
  refine zk 7 rfl (zY s 0 Fy bJ rfl (zc rfl (jo I (s.ae [5]) (dy _ _) (by omega)) ?_))
  intro v h s
  exact zk 3 rfl (WP.ret ⟨aa,_,rfl,.inr ⟨hd,v,rfl,(bE.2 ⟨pg,wt,nw,lg,mk,tn,tl,ops,s.ae [2,2,2,2,2,1,1,1,0]⟩).ae [1]⟩⟩)
theorem To (hT:W told){n:Int}(s:Sat h (aO p δ::S))(hf:δ.aU<4294967296)(hl:δ.log.length<1073741824):
  Call ⟨Tryz.prog,told⟩ 126 [.ptr p 0,.int .i64 n] h fun v h' =>
  (δ.dead=true∧v=.int .i64 9∧Sat h' (aO p δ::S))∨(δ.dead=false∧¬(0≤n∧n≤δ.log.length)∧v=.int .i64 1∧Sat h' (aO p δ::S)) ∨
  (δ.dead=false∧0≤n∧n≤δ.log.length∧δ.aU=0∧v=.int .i64 9∧Sat h' (aO p δ.die::S)) ∨
  (δ.dead=false∧0≤n∧n≤δ.log.length∧δ.aU≠0∧v=.int .i64 0∧Sat h' (aO p { δ.dh with log:=δ.log.take n.toNat,bu:=n.toNat }::S)):=by
 have s0:=s
 obtain⟨pg,wt,nw,lg,mk,tn,tl,ops,s⟩:=bE.1 s
 refine Call.of_wp (hT.free _ rfl) Tryz.func126 rfl rfl (zK 5 rfl (WP.block (zK 4 rfl (zf rfl (j8 _ _) ?_))))
 refine zd rfl (o_load rfl (s.ld (k:=0) rfl kV rfl)) ?_ ?_
 ·intro hd
  exact zk 7 rfl (WP.ret ⟨aa,_,rfl,.inl ⟨hd,rfl,s0⟩⟩)
 ·intro hd
  refine zk 6 rfl ?_
  refine zd rfl (ay rfl rfl aT) ?_ ?_
  ·intro J
   have J:n<0:=by simpa using J
   exact zk 16 rfl (WP.ret ⟨aa,_,rfl,.inr (.inl ⟨hd,fun q=>by omega,rfl,s0⟩)⟩)
  ·intro J
   have J:0≤n:=by simpa using J
   refine zk 4 rfl (zY s 0 j7 bJ rfl (zo rfl (aP rfl rfl rfl (aW aJ (s.aG (k:=4) rfl (aN _ _)))) ?_))
   refine zd rfl (ay rfl rfl fN) ?_ ?_
   ·intro I
    have I:(δ.log.length:Int)<n:=by simpa using I
    exact zk 8 rfl (WP.ret ⟨aa,_,rfl,.inr (.inl ⟨hd,fun q=>by omega,rfl,s0⟩)⟩)
   ·intro I
    have I:n≤δ.log.length:=by simpa using I
    refine zk 7 rfl (zc rfl (qf hT s0 hf) ?_)
    rintro v h (⟨h0,rfl,s⟩|⟨h0,rfl,s⟩)
    ·skip
     exact zo rfl (eU rfl rfl) (zk 7 rfl (WP.ret ⟨aa,_,rfl,.inr (.inr (.inl ⟨hd,J,I,h0,rfl,s⟩))⟩))
    ·skip
     obtain⟨pg,wt,nw,lg,mk,tn,tl,ops,s⟩:=bE.1 s
     dsimp only[Dk.dh] at s
     obtain⟨k,rfl⟩:∃k:Nat,n=k:=⟨n.toNat,by omega⟩
     refine zo rfl (eU rfl rfl) (za rfl (zv (zj rfl (WP.skip (zg rfl (zk 3 rfl (zf rfl (j7 _ _) (zl rfl (by exact s.ld (k:=0) rfl bJ rfl) ?_))))))))
     refine zm rfl (zo rfl (bU (p:=none) (q:=some (.int .i64 (k:Int))) (m:=none) (p':=none) (q':=some k) (m':=none) rfl rfl rfl rfl rfl (by simp[iK,bndV]) rfl (iy (s.buf (k:=4) rfl).view (b:=k) (by omega)).1) ?_)
     refine zc rfl (jo hT (s.ae [4]) (xS (aN _ _) (b:=k) (by omega)) (by simp;omega)) ?_
     intro v h s
     have hv:=(s.buf (k:=0) rfl).view.cells
     refine zn rfl (zf rfl (j7 _ _) (zS rfl (s.dK (k:=2) rfl gY rfl (by decide) hv.1 hv.2) ?_))
     intro h s
     refine zk 6 rfl (zf rfl (tY _ _) ?_)
     refine zS rfl (by exact s.dK (k:=2) rfl lR rfl (by decide) rfl rfl) (fun h s => ?_)
     refine zk 5 rfl (WP.ret ⟨aa,_,rfl,?_⟩)
     have s:=(s.del 1).ae [1,1,1,1,0,0,0,0]
     exact .inr (.inr (.inr ⟨hd,J,I,h0,rfl,bE.2 ⟨pg,wt,nw,v,mk,tn,tl,ops,s⟩⟩))
def Dk.fresh (aq room:Nat): Dk:={ room:=room,aq:=List.replicate aq none,waiting:=[],now:=[],log:=[],bu:=0,mark:=[],aU := -1,dead:=false,eV:=none,tail:=[] }
theorem Xp : ∃i,Tryz.prog.info? 23=some i∧i.size=1∧i.bytes=24 :=
 ⟨_,(show Tryz.prog.info? 23=some ((Tryz.prog.info? 23).getD default) by kernel_rfl),by kernel_rfl,by kernel_rfl⟩
theorem KV (v:V): ∀n:Nat,repeatL [v] n=List.replicate n v:=by
 intro n
 induction n with
 |zero=>rfl
 |succ n I=>simp only[repeatL,I,ET,iS,dU]
theorem Ql {a b:PM}: ∀n:Nat,(each kY (List.replicate n .aY) (List.replicate n none)).p a b:=by
 intro n
 induction n with
 |zero=>trivial
 |succ n I=>exact⟨rfl,I⟩
theorem IX (hT:W told){m:Nat}(s:Sat h S)(hn:n<1073741824): Call ⟨Tryz.prog,told⟩ 60 [.int .i64 (n:Int),.int .i64 (m:Int)] h fun v h'=>∃p,v=.ptr p 0∧Sat h' (aO p (Dk.fresh n m)::S):=by
 refine Call.of_wp (hT.free _ rfl) Tryz.func60 rfl rfl (zK 8 rfl ?_)
 obtain⟨i1,I,J,qg⟩:=Xp
 obtain⟨id,h1,e1,s1⟩:=Gz (P:=Tryz.prog) s gz I o8 J (by omega) rfl (by decide) hn
 refine au.any rfl rfl rfl (OpR.of (R:=fun v h'=>v=.sl id 0 n (.exact n)∧h'=h1) (tu rfl rfl e1) ⟨rfl,rfl⟩) ?_
 rintro v h ⟨rfl,rfl⟩
 have s:=s1
 dsimp only[V.cells] at s
 rw[iV,KV] at s
 refine au.sQ s rfl rfl rfl rfl (fun p8 h s => ?_)
 refine zo rfl (cj rfl (by rw[aa9];rfl)) ?_
 refine au.bD s rfl rfl rfl (dB rfl rfl) (fun GI h s => ?_)
 refine zk 2 rfl (WP.ret ⟨aa,_,rfl,?_⟩)
 have s:=(pq (f:=fun v b=>aI.cD v b) (s.ae [1]))
 have s:=s.rX.rX.uE
 have s:Sat _ (BH .aY []::_):=mF.2 ⟨[],(s.fB (φ:=True) aa).kg⟩
 have s:Sat _ (BI .bq none::_):=s.fB rfl
 have s:=s.ae [6,6]
 have hp:Sat _ (oT (.sl id 0 n (.exact n)) (List.replicate n none)::_):=gA.2 ⟨id,List.replicate n .aY,by rw[eY],by
  rw[eY]
  exact(((s.ae [1]).fB (φ:=True) aa).iu fun a b _=>Ql n).ae [1]⟩
 dsimp only[V.cells,List.take,List.length_cons,List.length_nil,Nat.reduceAdd,List.drop,List.cons_append,List.nil_append,aE,bringA,getA] at hp
 exact⟨_,rfl,bE.2 ⟨_,_,_,_,_,_,_,_,hp.ae [1,0,1,4,1,1,0,0]⟩⟩
theorem Ma (hT:W told){n m:Int}(s:Sat h S): Call ⟨Tryz.prog,told⟩ 30 [.int .i64 n,.int .i64 m] h fun v h' =>
  (¬(1≤n∧n≤65536∧0≤m∧m≤16777216)∧v=.aQ [.bq,.int .i64 1]∧Sat h' S) ∨
  (1≤n∧n≤65536∧0≤m∧m≤16777216∧∃p,v=.aQ [.ptr p 0,.int .i64 0]∧Sat h' (aO p (Dk.fresh n.toNat m.toNat)::S)):=by
 refine Call.of_wp (hT.free _ rfl) Tryz.func30 rfl rfl (zK 9 rfl ?_)
 refine zd rfl (ay rfl rfl aT) ?_ ?_
 ·intro hq
  have hq:n<1:=by simpa using hq
  exact zk 19 rfl (WP.ret ⟨aa,_,rfl,.inl ⟨fun q=>by omega,rfl,s⟩⟩)
 ·intro hq
  have hq:1≤n:=by simpa using hq
  refine zk 2 rfl ?_
  refine zd rfl (ay rfl rfl fN) ?_ ?_
  ·intro I
   have I:65536<n:=by simpa using I
   exact zk 16 rfl (WP.ret ⟨aa,_,rfl,.inl ⟨fun q=>by omega,rfl,s⟩⟩)
  ·intro I
   have I:n≤65536:=by simpa using I
   refine zk 3 rfl ?_
   refine zd rfl (ay rfl rfl aT) ?_ ?_
   ·intro J
    have J:m<0:=by simpa using J
    exact zk 12 rfl (WP.ret ⟨aa,_,rfl,.inl ⟨fun q=>by omega,rfl,s⟩⟩)
   ·intro J
    have J:0≤m:=by simpa using J
    refine zk 3 rfl ?_
    refine zd rfl (ay rfl rfl fN) ?_ ?_
    ·intro qh
     have qh:16777216<m:=by simpa using qh
     exact zk 8 rfl (WP.ret ⟨aa,_,rfl,.inl ⟨fun q=>by omega,rfl,s⟩⟩)
    ·intro qh
     have qh:m≤16777216:=by simpa using qh
     refine zk 8 rfl ?_
     obtain⟨n,rfl⟩:∃k:Nat,n=k:=⟨n.toNat,by omega⟩
     obtain⟨m,rfl⟩:∃k:Nat,m=k:=⟨m.toNat,by omega⟩
     refine zc rfl (IX hT s (by omega)) ?_
     rintro v h ⟨p,rfl,s⟩
     exact zk 3 rfl (WP.ret ⟨aa,_,rfl,.inr ⟨hq,I,J,qh,p,rfl,s⟩⟩)
end
def leN : List Nat→Nat
 |[]=>0
 |b::l=>b+256*leN l
theorem Tp : ∀(l:List Nat) (b:Nat),leN (l++[b])=leN l+b*256^l.length:=by
 intro l
 induction l with
 |nil=>intro b;simp[leN]
 |cons x l I=>intro b;simp only[iS,leN,I,bz,wB,Nat.mul_add];rw[←j6,tO (256^l.length) 256,←Nat.mul_assoc b,tO b 256,Nat.mul_assoc 256 b]
theorem Al : ∀(l:List Nat),(∀b∈l,b<256)→leN l<256^l.length:=by
 intro l
 induction l with
 |nil=>intro _;simp[leN]
 |cons x l I =>
  intro h
  have h1:=I (fun b J=>h b (bW _ J))
  have h2:=h x bX
  simp only[leN,bz,wB]
  omega
theorem IY (i:Nat): (256:Nat)^i=2^(8*i):=by rw[Nat.pow_mul]
theorem acR {x:Operand}(hd:d<256)(hi:i≤7): binV P h .shl t x y (.int .u64 (d:Int)) (.int .i64 (8*(i:Int)))=some (.int .u64 ((d*256^i:Nat):Int)):=by
 have J:(256:Nat)^i≤256^7:=qW (by omega) hi
 have I:d*256^i<18446744073709551616:=by
  have:d*256^i≤255*256^7:=tM (by omega) J
  omega
 simp only[binV,shiftV,IntKind.bits]
 have e:(8*(i:Int)).toNat=8*i:=by omega
 rw[e,show min (8*i) 64=8*i by omega,show decide (8*(i:Int)<0)=false by simp;omega,aX]
 have:(d:Int)*2^(8*i)=((d*256^i:Nat):Int):=by rw[IY];push_cast;rfl
 simp only[this,wrap_u64 I]
theorem or8 {x:Operand}(I:a<256^i)(hd:d<256)(hi:i≤7): binV P h .or t x y (.int .u64 (a:Int)) (.int .u64 ((d*256^i:Nat):Int))=some (.int .u64 ((a+d*256^i:Nat):Int)):=by
 have J:(256:Nat)^i≤256^7:=qW (by omega) hi
 have hm:d*256^i≤255*256^7:=tM (by omega) J
 have h1:((a:Int)%(2^(IntKind.u64).bits:Int)).toNat=a:=by simp only[IntKind.bits];omega
 have h2:(((d*256^i:Nat):Int)%(2^(IntKind.u64).bits:Int)).toNat=d*256^i:=by simp only[IntKind.bits];omega
 have h3:Nat.lor a (d*256^i)=a+d*256^i:=by
  have e:d*256^i=2^(8*i)*d:=by rw[←IY,tO]
  have:=Lz (i:=8*i) (b:=a) (by rw[←IY];exact I) d
  rw[←e] at this
  rw[Nat.add_comm a,this]
  exact Nat.or_comm _ _
 simp only[binV,ikBeq,ah,intV,bitsV,h1,h2,h3]
 rw[wrap_u64 (by omega)]
section
variable {told:cJ} {v:V}
noncomputable def wdL : Code:=cU [1,1,0,1,0,0] ((Tryz.f68.body).getD .skip)
theorem Qm (hv:View h v l)(hl:l.length≤8): ∀(j i:Nat) (E:List (Nat×V)) (Q:Ex→List (Nat×V)→H→Prop),i+j=l.length →
  Has E [(3,.int .u64 (leN (l.take i))),(6,v),(7,.int .i64 l.length),(8,.int .i64 i)]→(∀E',look E' 3=some (.int .u64 (leN l))→Q (.exit 0) E' h)→WP ⟨Tryz.prog,told⟩ 22 (.loop wdL) E h Q:=by
 intro j
 induction j with
 |zero =>
  intro i E Q hi hE hq
  refine WP.loop (WP.has hE (zg rfl (zC rfl aT (by simp;omega) ?_)))
  refine zk 3 rfl (WP.exit (hq _ ?_))
  rw[gB (by omega)]
  rfl
 |succ j ih =>
  intro i E Q hi hE hq
  have J:l[i]?=some (l[i]'(by omega)):=bw _
  generalize Ge:(l[i]'(by omega))=b at J
  have I:b<256:=hv.1 b (bK J)
  obtain⟨id,off,e1,e2⟩:=fg hv J
  have ht:l.take (i+1)=l.take i++[b]:=by rw[EX,J];rfl
  have cH:leN (l.take i)<256^i:=by
   have:=Al (l.take i) (fun x hx=>hv.1 x (kE hx))
   rwa [gR,Ba (by omega)] at this
  refine WP.loop (WP.has hE (zg rfl (zB rfl aT (by simp;omega) ?_)))
  refine zk 5 rfl (WP.block (zK 3 rfl (zo rfl (c8 (r:=.ptr id off) rfl rfl e1) (zl rfl e2 (zk 6 rfl (zo rfl (bT rfl (by exact gL Tryz.underlying5 bR (eP (by omega) (by omega)))) ?_))))))
  refine zm rfl (zb rfl (by exact jf (aA (by omega) (by omega))) ?_)
  refine zb rfl (acR I (by omega)) ?_
  refine zb rfl (or8 cH I (by omega)) ?_
  refine za rfl (zv (zr rfl (zb rfl (by exact bf (aA (by omega) (by omega))) ?_)))
  refine zm rfl (zv ?_)
  refine ih (i+1) _ _ (by omega) ?_ hq
  rw[ht,Tp,gR,Ba (by omega)]
  exact⟨rfl,rfl,rfl,rfl,aa⟩
theorem mz (hT:W told)(s:Sat h S)(hk:getA S k=some X)(hX:cN X (cP v l))(hl:l.length≤8): Call ⟨Tryz.prog,told⟩ 68 [v] h fun r h'=>r=.int .u64 (leN l)∧h'=h:=by
 have J:=s.aG hk hX
 refine Call.of_wp (hT.free _ rfl) Tryz.func68 rfl rfl (zK 12 rfl (zo rfl (aP rfl rfl rfl (aW aJ J)) (zk 2 rfl (WP.block ?_))))
 refine Qm J hl l.length 0 _ _ (by omega) ⟨rfl,rfl,rfl,rfl,aa⟩ (fun E' I => ?_)
 exact WP.has (F:=[(3,.int .u64 (leN l))]) ⟨I,aa⟩ (zK 5 rfl (WP.ret ⟨aa,_,rfl,rfl,rfl⟩))
theorem V0 (I:W told)(s:Sat h S)(J:getA S k=some X)(hX:cN X (cP v l))(hl:l.length≤4611686018427387904): Call ⟨Tryz.prog,told⟩ 180 [v] h fun r h'=>r=.int .u32 (DU 0 l:Nat)∧h'=h:=by
 refine Call.of_wp (I.free _ rfl) Tryz.func180 rfl rfl (zK 7 rfl (zc rfl (Xm (s:=0) I s J hX (by decide) hl) ?_))
 rintro v h' ⟨rfl,rfl⟩
 exact zk 2 rfl (WP.ret ⟨aa,_,rfl,rfl,rfl⟩)
def dF (l:List Nat)(a z:Nat): Nat:=leN ((l.take (a+z)).drop a)
theorem uI (hT:W told){a z:Int}(s:Sat h S)(J:getA S k=some X)(hX:cN X (cP v l))(ha:0≤a)(hz:1≤z)(V1:z≤7)(hl:a+z≤l.length)(gE:l.length≤65536):
  Call ⟨Tryz.prog,told⟩ 179 [.agg [v],.int .i64 a,.int .i64 z] h fun r h'=>r=.int .i64 (dF l a.toNat z.toNat)∧Sat h' S:=by
 have hv:=s.aG J hX
 obtain⟨pi,po,pc,rfl⟩:=iD hv (by omega)
 refine Call.of_wp (hT.free _ rfl) Tryz.func179 rfl rfl (zg rfl ?_)
 refine au.bD s rfl rfl rfl (dB rfl rfl) (fun p3 h s => ?_)
 refine zk 4 rfl (zY s 0 ik bJ rfl (zk 3 rfl (zb rfl (by exact bf (aA (by omega) (by omega))) ?_)))
 refine zk 2 rfl (zb rfl (by exact bf (aA (by omega) (by omega))) ?_)
 have kx:=Cf (s.aG (m6 J) hX) (a:=a.toNat) (b:=(a+z).toNat) (c:=(a+z).toNat) (by omega) (by omega) (by omega) (by omega)
 refine zo rfl (bU (p:=some (.int .i64 a)) (q:=some (.int .i64 (a+z))) (m:=some (.int .i64 (a+z))) rfl rfl rfl rfl (cW ha) (cW (by omega)) (cW (by omega)) kx) ?_
 have hlen:((l.take (a+z).toNat).drop a.toNat).length=z.toNat:=by simp;omega
 refine zc rfl (mz hT s (m6 J) (GB hX (a:=a.toNat) (b:=(a+z).toNat) (c:=(a+z).toNat) (by omega) (by omega) (by omega) (by omega)) (by omega)) ?_
 rintro r h' ⟨rfl,rfl⟩
 have I:=Al ((l.take (a+z).toNat).drop a.toNat) (fun x hx=>hv.1 x (kE (nW hx)))
 have hp:256^z.toNat≤256^7:=qW (by omega) (by omega)
 rw[hlen] at I
 have e:(a+z).toNat=a.toNat+z.toNat:=by omega
 rw[e] at I ⊢
 refine zo rfl (bT rfl (by exact gL bR br (aA (by omega) (by omega)))) ?_
 exact zk 2 rfl (WP.ret ⟨aa,_,rfl,rfl,s.drop⟩)
theorem An (I:∀b∈l,b<256): dF l a z<256^z:=by
 have:=Al ((l.take (a+z)).drop a) (fun x J=>I x (kE (nW J)))
 have h2:((l.take (a+z)).drop a).length≤z:=by simp;omega
 exact gQ this (qW (by omega) h2)
def lI (l:List Nat): Nat:=dF l 14 2
def jj (l:List Nat): Nat:=dF l 16 2
def dS (l:List Nat)(i:Nat): Nat:=dF l (26+4*i) 2
def jq (l:List Nat)(i:Nat): Nat:=dF l (26+4*i+2) 2
theorem lJ (I:W told)(s:Sat h S)(J:getA S k=some X)(hX:cN X (cP v l))(hl:l.length=512):
  Call ⟨Tryz.prog,told⟩ 160 [.agg [v]] h fun r h'=>r=.int .i64 (lI l)∧Sat h' S:=by
 have hv:=s.aG J hX
 obtain⟨pi,po,pc,rfl⟩:=iD hv (by omega)
 refine Call.of_wp (I.free _ rfl) Tryz.func160 rfl rfl (zg rfl ?_)
 refine au.bD s rfl rfl rfl (dB rfl rfl) (fun p1 h s => ?_)
 refine zk 4 rfl (zl rfl (s.cV (k:=0) rfl cK bN) (zc rfl (uI I s (m6 J) hX (by decide) (by decide) (by decide) (by omega) (by omega)) ?_))
 rintro r h' ⟨rfl,s⟩
 exact zk 2 rfl (WP.ret ⟨aa,_,rfl,rfl,s.drop⟩)
theorem IZ (I:W told)(s:Sat h S)(J:getA S k=some X)(hX:cN X (cP v l))(hl:l.length=512):
  Call ⟨Tryz.prog,told⟩ 161 [.agg [v]] h fun r h'=>r=.int .i64 (jj l)∧Sat h' S:=by
 have hv:=s.aG J hX
 obtain⟨pi,po,pc,rfl⟩:=iD hv (by omega)
 refine Call.of_wp (I.free _ rfl) Tryz.func161 rfl rfl (zg rfl ?_)
 refine au.bD s rfl rfl rfl (dB rfl rfl) (fun p1 h s => ?_)
 refine zk 4 rfl (zl rfl (s.cV (k:=0) rfl cK bN) (zc rfl (uI I s (m6 J) hX (by decide) (by decide) (by decide) (by omega) (by omega)) ?_))
 rintro r h' ⟨rfl,s⟩
 exact zk 2 rfl (WP.ret ⟨aa,_,rfl,rfl,s.drop⟩)
end
def yU (t:List Bool): List V:=t.map V.bool
theorem Xq (t:List Bool)(k:Nat)(b:Bool): (yU t).set k (.bool b)=yU (t.set k b):=by simp[yU,List.map_set]
theorem Mb {t:List Bool}(I:k<t.length): nth (yU t) k=some (.bool (t.getD k false)):=by
 rw[gH];simp[yU,bw I]
theorem Tq : zeroT Tryz.prog 264=some (.agg (yU (List.replicate 512 false))):=by kernel_rfl
def markL : Nat→Nat→List Bool→Option (List Bool)
 |0,_,t=>some t
 |n+1,k,t=>if t.getD k false then none else markL n (k+1) (t.set k true)
def cellsL (l:List Nat)(low:Nat): Nat→Nat→List Bool→Bool
 |0,_,_=>true
 |n+1,i,t=>if dS l i<low∨512<dS l i+jq l i then false else match markL (jq l i) (dS l i) t with
  |none=>false
  |some t'=>cellsL l low n (i+1) t'
def cf (l:List Nat): Bool:=decide (l.length=512)&&(decide (l.getD 13 0=0)&&(decide (26+4*lI l≤jj l∧jj l≤512)&&cellsL l (jj l) (lI l) 0 (List.replicate 512 false)))
theorem Qn : ∀(n k:Nat) (t t':List Bool),markL n k t=some t'→t'.length=t.length:=by
 intro n
 induction n with
 |zero=>intro k t t' h;simp only[markL] at h;injection h with h;subst h;rfl
 |succ n I =>
  intro k t t' h
  simp only[markL] at h
  split at h
  ·cases h
  ·have:=I _ _ _ h;simpa using this
section
variable {told:cJ} {v:V}
theorem BJ (I:W told)(s:Sat h S)(J:getA S k=some X)(hX:cN X (cP v l))(hl:l.length=512)(hi:30+4*i≤512):
  Call ⟨Tryz.prog,told⟩ 162 [.agg [v],.int .i64 (i:Int)] h fun r h'=>r=.aQ [.int .i64 (dS l i),.int .i64 (jq l i)]∧Sat h' S:=by
 have hv:=s.aG J hX
 obtain⟨pi,po,pc,rfl⟩:=iD hv (by omega)
 have e1:(26+4*(i:Int)).toNat=26+4*i:=by omega
 have e2:(26+4*(i:Int)+2).toNat=26+4*i+2:=by omega
 refine Call.of_wp (I.free _ rfl) Tryz.func162 rfl rfl (zg rfl ?_)
 refine au.bD s rfl rfl rfl (dB rfl rfl) (fun p2 h s => ?_)
 refine zk 6 rfl (zb rfl (by exact jf (aA (by omega) (by omega))) ?_)
 refine zb rfl (by exact bf (aA (by omega) (by omega))) ?_
 refine zk 3 rfl ?_
 have s0:=s
 refine WP.drawn [af,af,af,some (0,2),some (0,2),some (0,2),af,af,af] rfl (by kernel_rfl) (by kernel_rfl) ?_
 refine zL rfl (s.cV (k:=0) rfl cK bN) (zM rfl (az.any rfl rfl rfl rfl (OpR.call rfl rfl rfl rfl (uI I s (m6 J) hX (by omega) (by decide) (by decide) (by omega) (by omega))) ?_))
 rintro r h' ⟨rfl,s⟩
 rw[e1]
 have s1:=s
 refine zL rfl (s.cV (k:=0) rfl cK bN) (zM rfl (zO rfl (ay rfl rfl (by exact bf (aA (by omega) (by omega)))) ?_))
 refine az.any rfl rfl rfl rfl (OpR.call rfl rfl rfl rfl (uI I s (m6 J) hX (by omega) (by decide) (by decide) (by omega) (by omega))) ?_
 rintro r h' ⟨rfl,s⟩
 rw[e2]
 refine zA rfl (zA rfl ?_)
 refine az.nil ⟨⟨aa,aa,aa,dZ (.inr ⟨rfl,⟨_,o_load rfl (s0.cV (k:=0) rfl cK bN)⟩,aS _ rfl⟩) (.inr ⟨rfl,⟨_,o_load rfl (s1.cV (k:=0) rfl cK bN)⟩,aS _ rfl⟩),fun _ _=>.inr ⟨rfl,⟨_,bn rfl⟩,aS _ rfl⟩,fun _ _=>.inr ⟨rfl,⟨_,ay rfl rfl (by exact bf (aA (by omega) (by omega)))⟩,aS _ rfl⟩,aa,aa,aa,aa⟩,?_⟩
 refine WP.ret ⟨aa,_,rfl,?_⟩
 exact⟨rfl,s.drop⟩
noncomputable def gdO : Code:=cU [1,1,1,1,1,1,0,1,0,0] ((Tryz.f90.body).getD .skip)
noncomputable def gdI : Code:=cU [1,1,1,1,1,1,0,1,0,0,1,1,0,0,1,1,1,1,0,0] ((Tryz.f90.body).getD .skip)
theorem N5 {v3 v4 v5 v35 v36:V}(haz:a+z≤512): ∀(m q:Nat) (t:List Bool) (h:H) (E:List (Nat×V)) (Q:Ex→List (Nat×V)→H→Prop),q+m=a+z→t.length=512 →
  Sat h (pt p6 (.cells 512 (yU t) false)::S)→Has E [(3,v3),(4,v4),(5,v5),(6,.ptr p6 0),(8,.int .i64 (a:Int)),(9,.int .i64 (z:Int)),(10,.int .i64 (q:Int)),(35,v35),(36,v36)] →
  (markL m q t=none→∀E' h',look E' 2=some (.bool false)→Sat h' S→Q .ret E' h') →
  (∀t' E' h',markL m q t=some t'→Has E' [(3,v3),(4,v4),(5,v5),(6,.ptr p6 0),(35,v35),(36,v36)]→Sat h' (pt p6 (.cells 512 (yU t') false)::S)→Q (.exit 2) E' h') →
  WP ⟨Tryz.prog,told⟩ 68 (.loop gdI) E h Q:=by
 intro m
 induction m with
 |zero =>
  intro q t h E Q hq ht s hE J hx
  refine WP.loop (WP.has hE (zK 6 rfl (zb rfl (by exact bf (aA (by omega) (by omega))) ?_)))
  refine zC rfl aT (by simp;omega) ?_
  exact zk 2 rfl (WP.exit (hx t _ _ rfl ⟨rfl,rfl,rfl,rfl,rfl,rfl,aa⟩ s))
 |succ m ih =>
  intro q t h E Q hq ht s hE J hx
  have I:q<t.length:=by omega
  refine WP.loop (WP.has hE (zK 6 rfl (zb rfl (by exact bf (aA (by omega) (by omega))) ?_)))
  refine zB rfl aT (by simp;omega) ?_
  refine zk 4 rfl (WP.block (zK 4 rfl (zo rfl (c8 (r:=.ptr p6 q) rfl rfl (by rw[VS,show(decide ((0:Int)≤(q:Int))&&decide ((q:Int)<((512:Nat):Int)))=true by simp;omega,ah];simp)) ?_)))
  cases hm:t.getD q false with
  |true =>
   refine zt rfl (o_load rfl (s.ld (k:=0) rfl kV (Mb I))) (hm) (zk 6 rfl (WP.ret ?_))
   refine J ?_ _ _ rfl s.drop
   rw[markL,aC hm]
  |false =>
   refine zh rfl (o_load rfl (s.ld (k:=0) rfl kV (Mb I))) (hm) (zk 5 rfl (zo rfl (c8 (r:=.ptr p6 q) rfl rfl (by rw[VS,show(decide ((0:Int)≤(q:Int))&&decide ((q:Int)<((512:Nat):Int)))=true by simp;omega,ah];simp)) ?_))
   refine zS rfl (s.dK (k:=0) rfl yR (by simp[yU,ht]) (by omega) rfl rfl) ?_
   intro h s
   dsimp only[setA] at s
   rw[Xq] at s
   refine zv (zr rfl (zm rfl (zb rfl (by exact bf (aA (by omega) (by omega))) ?_)))
   refine za rfl (zv ?_)
   have e:markL (m+1) q t=markL m (q+1) (t.set q true):=by rw[markL,ak (by rw[hm];decide)]
   rw[e] at J hx
   exact ih (q+1) (t.set q true) h _ Q (by omega) (by simp[ht]) s ⟨rfl,rfl,rfl,rfl,rfl,rfl,rfl,rfl,rfl,aa⟩ J hx
theorem N6 (hT:W told){p3:Nat}{low:Nat}(hX:cN X (cP x l))(hl:l.length=512)(cH:∀b∈l,b<256)(Gm:x.cells=[x])(hx2:storable x=true)(hn:n=lI l)(CQ:26+4*n≤low)(aef:low≤512): ∀(m i:Nat) (t:List Bool) (h:H) (E:List (Nat×V)) (Q:Ex→List (Nat×V)→H→Prop),i+m=n→t.length=512 →
  Sat h (pt p6 (.cells 512 (yU t) false)::pt p3 (.cells 1 [x] false)::X::S)→Has E [(3,.ptr p3 0),(4,.int .i64 (n:Int)),(5,.int .i64 (low:Int)),(6,.ptr p6 0),(35,.int .i64 (n:Int)),(36,.int .i64 (i:Int))] →
  (cellsL l low m i t=false→∀E' h',look E' 2=some (.bool false)→Sat h' (X::S)→Q .ret E' h') →
  (cellsL l low m i t=true→∀E' h',Sat h' (X::S)→Q (.exit 0) E' h') →
  WP ⟨Tryz.prog,told⟩ 68 (.loop gdO) E h Q:=by
 intro m
 induction m with
 |zero =>
  intro i t h E Q hi ht s hE J hx
  refine WP.loop (WP.has hE (zg rfl (zC rfl aT (by simp;omega) ?_)))
  exact zk 3 rfl (WP.exit (hx rfl _ _ s.drop.drop))
 |succ m ih =>
  intro i t h E Q hi ht s hE J hx
  have hf:=An (l:=l) (a:=26+4*i) (z:=2) cH
  have hz:=An (l:=l) (a:=26+4*i+2) (z:=2) cH
  have ef:dS l i=dF l (26+4*i) 2:=rfl
  have ez:jq l i=dF l (26+4*i+2) 2:=rfl
  refine WP.loop (WP.has hE (zg rfl (zB rfl aT (by simp;omega) ?_)))
  refine zk 5 rfl (WP.block (zK 7 rfl (zl rfl (s.cV (k:=1) rfl cK bN) (zm rfl (zc rfl (BJ (i:=i) hT s (k:=2) rfl hX hl (by omega)) ?_)))))
  rintro r h' ⟨rfl,s⟩
  refine zk 11 rfl ?_
  refine zd rfl (ay rfl rfl aT) ?_ ?_
  ·intro hq
   have hq:dS l i<low:=by simp at hq;omega
   refine zk 12 rfl (WP.ret ?_)
   refine J ?_ _ _ rfl s.drop.drop
   rw[cellsL,aC (.inl hq)]
  ·intro hq
   have hq:low≤dS l i:=by simp at hq;omega
   refine zk 3 rfl (zb rfl (by exact bf (aA (by omega) (by omega))) ?_)
   refine zd rfl (ay rfl rfl fN) ?_ ?_
   ·intro I
    have I:512<dS l i+jq l i:=by simp at I;omega
    refine zk 7 rfl (WP.ret ?_)
    refine J ?_ _ _ rfl s.drop.drop
    rw[cellsL,aC (.inr I)]
   ·intro I
    have I:dS l i+jq l i≤512:=by simp at I;omega
    refine zk 9 rfl (WP.block ?_)
    have e:cellsL l low (m+1) i t=(match markL (jq l i) (dS l i) t with|none=>false|some t'=>cellsL l low m (i+1) t'):=by rw[cellsL,ak (by omega)]
    rw[e] at J hx
    refine N5 I (jq l i) (dS l i) t _ _ _ rfl ht s ⟨rfl,rfl,rfl,rfl,rfl,rfl,rfl,rfl,rfl,aa⟩ (fun hm E' h' h2 s' => ?_) (fun t' E' h' hm fE s' => ?_)
    ·rw[hm] at J
     exact J rfl _ _ h2 s'.drop
    ·rw[hm] at J hx
     refine WP.has fE (zr rfl (zb rfl (by exact bf (aA (by omega) (by omega))) ?_))
     refine zm rfl (zv ?_)
     exact ih (i+1) t' h' _ Q (by omega) (by rw[Qn _ _ _ _ hm,ht]) s' ⟨rfl,rfl,rfl,rfl,rfl,rfl,aa⟩ J hx
theorem Mc (hT:W told)(s:Sat h (X::S))(hX:cN X (cP v l))(gE:l.length<9223372036854775808):
  Call ⟨Tryz.prog,told⟩ 90 [v] h fun r h'=>r=.bool (cf l)∧Sat h' (X::S):=by
 have hv:=s.aG (k:=0) rfl hX
 refine Call.of_wp (hT.free _ rfl) Tryz.func90 rfl rfl (zK 8 rfl (zo rfl (aP rfl rfl rfl (aW aJ (s.aG (k:=0) rfl hX))) ?_))
 refine zd rfl (ay rfl rfl aD) ?_ ?_
 ·intro hq
  have hq:l.length≠512:=by simp at hq;omega
  exact zk 12 rfl (WP.ret ⟨aa,_,rfl,by rw[cf,gC hq,kG],s⟩)
 ·intro hq
  have hq:l.length=512:=by simp at hq;omega
  have hb:l[13]?=some (l[13]'(by omega)):=bw _
  generalize Ge:(l[13]'(by omega))=b at hb
  have vp:l.getD 13 0=b:=by rw[nU,hb];rfl
  obtain⟨id,off,e1,e2⟩:=fg hv hb
  refine zk 2 rfl (zo rfl (c8 (r:=.ptr id off) rfl rfl e1) (zl rfl e2 ?_))
  refine zd rfl (ay rfl rfl aD) ?_ ?_
  ·intro I
   have I:b≠0:=by simp at I;omega
   exact zk 7 rfl (WP.ret ⟨aa,_,rfl,by rw[cf,eE hq,vp,gC I,kG,Bool.and_false],s⟩)
  ·intro I
   have I:b=0:=by simp at I;omega
   obtain⟨pi,po,pc,rfl⟩:=iD hv (by omega)
   refine zk 7 rfl (zo rfl (cj rfl (by rw[Bz];rfl)) ?_)
   refine au.bD s rfl rfl rfl (bI jT) (fun p3 h s => ?_)
   refine zS rfl (s.eS (j:=0) rfl bN rfl rfl) (fun h s => ?_)
   refine zk 2 rfl ?_
   have s0:=s
   refine WP.drawn [none,none,some (0,2),af,af,af] rfl (by kernel_rfl) (by kernel_rfl) ?_
   refine zL rfl (s.cV (k:=0) rfl cK bN) (az.any rfl rfl rfl rfl (OpR.call rfl rfl rfl rfl (lJ hT s (k:=1) rfl hX hq)) ?_)
   rintro r h' ⟨rfl,s⟩
   have s1:=s
   refine zL rfl (s.cV (k:=0) rfl cK bN) (az.any rfl rfl rfl rfl (OpR.call rfl rfl rfl rfl (IZ hT s (k:=1) rfl hX hq)) ?_)
   rintro r h' ⟨rfl,s⟩
   refine zA rfl (zA rfl ?_)
   refine az.nil ⟨⟨aa,aa,dZ (.inr ⟨rfl,⟨_,o_load rfl (s0.cV (k:=0) rfl cK bN)⟩,aS _ rfl⟩) (.inr ⟨rfl,⟨_,o_load rfl (s1.cV (k:=0) rfl cK bN)⟩,aS _ rfl⟩),aa,aa,aa,aa⟩,?_⟩
   have zH:=An (l:=l) (a:=14) (z:=2) hv.1
   have yL:=An (l:=l) (a:=16) (z:=2) hv.1
   have ec:lI l=dF l 14 2:=rfl
   have el:jj l=dF l 16 2:=rfl
   refine zK 4 rfl (zb rfl (by exact jf (aA (by omega) (by omega))) ?_)
   refine zb rfl (by exact bf (aA (by omega) (by omega))) ?_
   refine zm rfl ?_
   refine zd rfl (ay rfl rfl fN) ?_ ?_
   ·intro J
    have J:jj l<26+4*lI l:=by simp at J;omega
    exact zk 10 rfl (WP.ret ⟨aa,_,rfl,by rw[cf,eE hq,vp,eE I,gC (by omega:¬(26+4*lI l≤jj l∧jj l≤512))];rfl,s.drop⟩)
   ·intro J
    have J:26+4*lI l≤jj l:=by simp at J;omega
    refine zk 2 rfl ?_
    refine zd rfl (ay rfl rfl fN) ?_ ?_
    ·intro qh
     have qh:512<jj l:=by simp at qh;omega
     exact zk 7 rfl (WP.ret ⟨aa,_,rfl,by rw[cf,eE hq,vp,eE I,gC (by omega:¬(26+4*lI l≤jj l∧jj l≤512))];rfl,s.drop⟩)
    ·intro qh
     have qh:jj l≤512:=by simp at qh;omega
     refine zk 6 rfl (au.bD s rfl rfl rfl (bI Tq) ?_)
     intro p6 h s
     have w_:(yU (List.replicate 512 false)).length=512:=by rw[yU,gD,eY]
     dsimp only[V.cells] at s
     rw[w_] at s
     refine zk 7 rfl (WP.block ?_)
     have hg:cf l=cellsL l (jj l) (lI l) 0 (List.replicate 512 false):=by
      rw[cf,eE hq,vp,eE I,eE (⟨J,qh⟩:26+4*lI l≤jj l∧jj l≤512)];rfl
     refine N6 hT hX hq hv.1 rfl rfl rfl J qh (lI l) 0 (List.replicate 512 false) _ _ _ (by omega) eY s ⟨rfl,rfl,rfl,rfl,rfl,rfl,aa⟩ (fun hc E' h' h2 s' => ?_) (fun hc E' h' s' => ?_)
     ·rw[hg,hc]
      exact⟨aa,_,nG h2,rfl,s'⟩
     ·rw[hg,hc]
      exact WP.has (F:=[]) aa (zK 4 rfl (WP.ret ⟨aa,_,rfl,rfl,s'⟩))
end
section
variable {told:cJ} {v:V}
theorem xb (I:W told)(s:Sat h (aZ v l::S))(J:z≤8)(hl:l.length+z≤140737488355328):
  Call ⟨Tryz.prog,told⟩ 71 [v,.int .i64 (z:Int),.int .u64 (n:Int)] h fun r h'=>Sat h' (aZ r (l++le z n)::S) :=
 (Qg I.VY s.wf (s.buf (k:=0) rfl) J hl).mono fun _ _ ⟨h1,h2,h3⟩=>s.Br h2 h1 h3
theorem qz (hT:W told)(s:Sat h (aZ v l::S))(hz:1≤z)(V1:z≤8)(J:a+z≤l.length)(gE:l.length≤65536):
  Call ⟨Tryz.prog,told⟩ 88 [.agg [v],.int .i64 (a:Int),.int .i64 (z:Int),.int .u64 (n:Int)] h fun r h'=>r=.aQ []∧Sat h' (aZ v (a_ l a (le z n))::S):=by
 obtain⟨kz,_,cap,_,rfl,_⟩:=s.fU (by omega)
 refine Call.of_wp (hT.free _ rfl) Tryz.func88 rfl rfl (zg rfl ?_)
 refine au.bD s rfl rfl rfl (dB rfl rfl) (fun p4 h s => ?_)
 refine zv ?_
 have s0:=s
 refine WP.drawn [some (0,2),some (0,2),some (0,2),some (0,2),some (0,2),some (0,2),some (0,2),af,af,af,af] rfl (by kernel_rfl) (by kernel_rfl) ?_
 refine zF rfl (ik _ _) (zL rfl (s.ld (k:=0) rfl bJ rfl) (zM rfl (zM rfl (zM rfl (zO rfl (ay rfl rfl (by exact bf (aA (by omega) (by omega)))) ?_)))))
 have ez:((a:Int)+(z:Int)).toNat=a+z:=by omega
 have ea:((a:Int)).toNat=a:=by omega
 refine zO rfl (bU (p:=some (.int .i64 (a:Int))) (q:=some (.int .i64 ((a:Int)+(z:Int)))) (m:=none) (p':=some a) (q':=some (a+z)) (m':=none) rfl rfl rfl rfl (by rw[cW (by omega),ea]) (by rw[cW (by omega),ez]) rfl (dc (s.buf (k:=1) rfl).view (by omega) J).1) ?_
 refine zM rfl (zM rfl (az.any rfl rfl rfl rfl (OpR.call rfl rfl rfl rfl (xb hT s.uE V1 (by simp;omega))) ?_))
 intro u h s
 have s:=s.ae [1,1,0]
 dsimp only[List.nil_append,V.cells,List.length_cons,List.length_nil,Nat.reduceAdd,bringA,getA,aE] at s
 have s1:=s
 refine az.any rfl rfl rfl rfl (OpR.NS rfl (s.ae [1,1]) (aN _ _) rfl rfl rfl rfl (by omega) J (by simp[cO];omega)) ?_
 intro r h s
 have hs:∃q c,slR (V.sl kz 0 l.length cap) a (a+z)=.sl kz q (a+z-a) c:=by
  cases cap with
  |exact c=>exact⟨_,_,rfl⟩
  |rest e alt=>exact⟨_,_,rfl⟩
 obtain⟨q,c,hs⟩:=hs
 have I:(slR (V.sl kz 0 l.length cap) a (a+z)).beq (slR (V.sl kz 0 l.length cap) a (a+z))=true:=by rw[hs];exact HJ _ _ _ _
 refine az.nil ⟨⟨fun _ _=>.inr ⟨rfl,⟨_,jH rfl (ik _ _)⟩,aS _ rfl⟩,dZ (.inr ⟨rfl,⟨_,o_load rfl (s0.ld (k:=0) rfl bJ rfl)⟩,aS _ rfl⟩) (.inr ⟨rfl,⟨_,o_load rfl (s1.ld (k:=0) rfl bJ rfl)⟩,aS _ rfl⟩),fun _ _=>.inr ⟨rfl,⟨_,bn rfl⟩,aS _ rfl⟩,fun _ _=>.inr ⟨rfl,⟨_,bn rfl⟩,aS _ rfl⟩,fun _ _=>.inr ⟨rfl,⟨_,bn rfl⟩,aS _ rfl⟩,fun _ _=>.inr ⟨rfl,⟨_,ay rfl rfl (by exact bf (aA (by omega) (by omega)))⟩,aS _ rfl⟩,dZ (.inr ⟨rfl,⟨_,bU (p:=some (.int .i64 (a:Int))) (q:=some (.int .i64 ((a:Int)+(z:Int)))) (m:=none) (p':=some a) (q':=some (a+z)) (m':=none) rfl rfl rfl rfl (by rw[cW (by omega),ea]) (by rw[cW (by omega),ez]) rfl (dc (s0.buf (k:=1) rfl).view (by omega) J).1⟩,I⟩) (.inr ⟨rfl,⟨_,bU (p:=some (.int .i64 (a:Int))) (q:=some (.int .i64 ((a:Int)+(z:Int)))) (m:=none) (p':=some a) (q':=some (a+z)) (m':=none) rfl rfl rfl rfl (by rw[cW (by omega),ea]) (by rw[cW (by omega),ez]) rfl (dc (s1.buf (k:=1) rfl).view (by omega) J).1⟩,I⟩),aa,aa,aa,aa,aa⟩,?_⟩
 refine⟨aa,_,rfl,rfl,?_⟩
 rw[show a+z-a=z by omega,gB (by rw[cO];omega)] at s
 exact(s.del 1).del 1
theorem uJ (hT:W told)(s:Sat h (X::S))(hX:cN X (cP v l))(J:l.length<9223372036854775808):
  Call ⟨Tryz.prog,told⟩ 178 [v] h fun r h'=>Sat h' (X::S)∧((cf l=true∧r=.aQ [.agg [v],.int .i64 0])∨(cf l=false∧r=.aQ [.agg [.aY],.int .i64 4])):=by
 have hv:=s.aG (k:=0) rfl hX
 refine Call.of_wp (hT.free _ rfl) Tryz.func178 rfl rfl (zg rfl ?_)
 refine au.bD s rfl rfl rfl (bI jT) (fun p2 h s => ?_)
 refine zk 6 rfl (zc rfl (Mc hT (s.ae [1]) hX J) ?_)
 rintro r h' ⟨rfl,s⟩
 cases hg:cf l with
 |true =>
  have I:1≤l.length:=by
   have:l.length=512:=by simp only[cf,bH,ie] at hg;exact hg.1
   omega
  obtain⟨pi,po,pc,rfl⟩:=iD hv I
  refine zo rfl (eU rfl rfl) (zk 6 rfl (zo rfl (cj rfl (by rw[Bz];rfl)) ?_))
  refine zS rfl (s.eS (j:=1) rfl bN rfl rfl) (fun h s => ?_)
  refine zk 2 rfl ?_
  refine WP.ret ⟨aa,_,HK rfl (s.cV (k:=1) rfl cK bN) rfl,?_⟩
  exact⟨s.del 1,.inl ⟨rfl,rfl⟩⟩
 |false =>
  refine zo rfl (eU rfl rfl) (zk 4 rfl (zo rfl (cj rfl (by rw[Bz];rfl)) ?_))
  refine zS rfl (s.eS (j:=1) rfl bN rfl rfl) (fun h s => ?_)
  refine zk 2 rfl ?_
  refine WP.ret ⟨aa,_,HK rfl (s.cV (k:=1) rfl cK bN) rfl,?_⟩
  exact⟨s.del 1,.inr ⟨rfl,rfl⟩⟩
theorem fb (I:cf l=true): l.length=512:=by simp only[cf,bH,ie] at I;exact I.1
theorem vq (hT:W told)(s:Sat h (X::S))(J:cN X (cP v l))(gE:l.length<9223372036854775808):
  Call ⟨Tryz.prog,told⟩ 192 [v] h fun r h'=>(cf l=true∧∃u,r=.aQ [.agg [u],.int .i64 0]∧Sat h' (aZ u l::X::S))∨(cf l=false∧r=.aQ [.agg [.aY],.int .i64 4]∧Sat h' (X::S)):=by
 have hv:=s.aG (k:=0) rfl J
 refine Call.of_wp (hT.free _ rfl) Tryz.func192 rfl rfl (zg rfl ?_)
 refine au.bD s rfl rfl rfl (bI jT) (fun p2 h s => ?_)
 refine zk 5 rfl (zc rfl (uJ hT (s.ae [1]) J gE) ?_)
 rintro r h' ⟨s,(⟨I,rfl⟩|⟨I,rfl⟩)⟩
 ·have acS:=fb I
  obtain⟨pi,po,pc,rfl⟩:=iD hv (by omega)
  refine zk 3 rfl ?_
  refine au.bD s rfl rfl rfl (bI jT) (fun p4 h s => ?_)
  refine zS rfl (s.eS (j:=0) rfl bN rfl rfl) (fun h s => ?_)
  refine zk 6 rfl (zC rfl aD (rfl) (zk 4 rfl ?_))
  have s0:=s
  refine WP.drawn [af,af,af,af,some (0,2),some (0,2),af,af,af,af] rfl (by kernel_rfl) (by kernel_rfl) ?_
  refine zF rfl (ik _ _) (zL rfl (s.ld (k:=0) rfl bJ rfl) (zO rfl (aP rfl rfl rfl (p_ rfl aJ)) (az.any rfl rfl rfl rfl (OpR.uF rfl s rfl rfl rfl rfl (by omega)) ?_)))
  intro u h s
  have s:=s.ae [1,1,1,0]
  have s1:=s
  refine zF rfl (ik _ _) (zL rfl (s.ld (k:=0) rfl bJ rfl) (az.any rfl rfl rfl rfl (OpR.rJ rfl (s.ae [3,1]) J rfl rfl rfl rfl (by simp;omega)) ?_))
  intro u2 h s
  rw[dU] at s
  obtain⟨kz,_,cap,_,rfl,_⟩:=s.fU (by omega)
  have s2:=s
  refine zO rfl (cj rfl (by rw[Bz];rfl)) ?_
  refine az.gh rfl rfl rfl (OpR.fM rfl rfl rfl (s.eS (j:=3) rfl bN rfl rfl)) ?_
  rintro w h ⟨rfl,s⟩
  have s3:=s
  refine zA rfl ?_
  refine az.nil ⟨⟨aa,aa,aa,aa,fun _ _=>.inr ⟨rfl,⟨_,jH rfl (ik _ _)⟩,aS _ rfl⟩,dZ (.inr ⟨rfl,⟨_,o_load rfl (s0.ld (k:=0) rfl bJ rfl)⟩,aS _ rfl⟩) (.inr ⟨rfl,⟨_,o_load rfl (s1.ld (k:=0) rfl bJ rfl)⟩,aS _ rfl⟩),aa,aa,aa,aa,aa⟩,?_⟩
  refine WP.ret ⟨aa,_,HK rfl (s.cV (k:=3) rfl cK bN) rfl,?_⟩
  exact .inl ⟨I,_,rfl,(s.del 2).del 2⟩
 ·skip
  refine zk 3 rfl ?_
  refine au.bD s rfl rfl rfl (bI jT) (fun p4 h s => ?_)
  refine zS rfl (s.eS (j:=0) rfl bN rfl rfl) (fun h s => ?_)
  refine zk 6 rfl (zB rfl aD (rfl) (zk 4 rfl (zo rfl (cj rfl (by rw[Bz];rfl)) ?_)))
  refine zm rfl ?_
  refine zS rfl (s.eS (j:=2) rfl bN rfl rfl) (fun h s => ?_)
  refine zk 2 rfl ?_
  refine WP.ret ⟨aa,_,HK rfl (s.cV (k:=2) rfl cK bN) rfl,?_⟩
  exact .inr ⟨I,rfl,(s.del 2).del 0⟩
def oG (l:List Nat)(n:Nat): List Nat:=a_ l 4 (le 8 n)
def cz (l:List Nat)(n:Nat): List Nat:=a_ (oG l n) 0 (le 4 (DU 0 ((oG l n).drop 4)))
theorem xY (I:l.length=512): (oG l n).length=512:=by rw[oG,cI (by rw[cO];omega),I]
theorem Me (I:W told)(s:Sat h (X::S))(hX:cN X (cP v l))(gE:l.length<9223372036854775808):
  Call ⟨Tryz.prog,told⟩ 131 [v,.int .u64 (n:Int)] h fun r h'=>(cf l=true∧∃u,r=.aQ [u,.int .i64 0]∧Sat h' (aZ u (cz l n)::X::S))∨(cf l=false∧r=.aQ [.aY,.int .i64 4]∧Sat h' (X::S)):=by
 refine Call.of_wp (I.free _ rfl) Tryz.func131 rfl rfl (zK 8 rfl (zc rfl (vq I s hX gE) ?_))
 rintro r h' (⟨hg,u,rfl,s⟩|⟨hg,rfl,s⟩)
 ·have J:=fb hg
  have oA:(oG l n).length=512:=xY J
  obtain⟨kz,_,cap,_,rfl,_⟩:=s.fU (by omega)
  refine zk 3 rfl ?_
  refine au.bD s rfl rfl rfl (bI jT) (fun p6 h s => ?_)
  refine zS rfl (s.eS (j:=0) rfl bN rfl rfl) (fun h s => ?_)
  refine zk 6 rfl (zC rfl aD (rfl) (zk 5 rfl (zl rfl (s.cV (k:=0) rfl cK bN) (zm rfl (zc rfl (qz (a:=4) (z:=8) I (s.ae [1]) (by decide) (by decide) (by omega) (by omega)) ?_)))))
  rintro r h' ⟨rfl,s⟩
  have s:=s.ae [1,0]
  have s:Sat _ (_::aZ _ (oG l n)::_):=s
  refine zk 2 rfl ?_
  have s0:=s
  have uK:=(s.buf (k:=1) rfl).view.1
  have ec:(oG l n).length=l.length:=by omega
  rw[←ec] at *
  refine WP.drawn [some (0,2),af,af,af,af,af,af] rfl (by kernel_rfl) (by kernel_rfl) ?_
  refine zL rfl (s.cV (k:=0) rfl cK bN) (zF rfl (ik _ _) (zL rfl (s.ld (k:=0) rfl bJ rfl) (zO rfl (bU (p:=some (.int .i64 4)) (q:=none) (m:=none) (p':=some 4) (q':=none) (m':=none) rfl rfl rfl rfl rfl rfl rfl (ff (s.buf (k:=1) rfl).view (a:=4) (by omega)).1) ?_)))
  refine az.any rfl rfl rfl rfl (OpR.call rfl rfl rfl rfl (V0 I s (k:=1) rfl (rH (aN _ _) (a:=4) (by omega)) (by simp;omega))) ?_
  rintro r h' ⟨rfl,rfl⟩
  have s1:=s
  have hc:=CP (s:=0) (l:=(oG l n).drop 4) (by decide) (fun x hx=>uK x (nW hx))
  refine az.op rfl rfl rfl (by simp only[isEff,bR]) (bT rfl (by exact gL Tryz.underlying285 bR (eP (by omega) (by omega)))) ?_
  refine az.any rfl rfl rfl rfl (OpR.call rfl rfl rfl rfl (qz (a:=0) (z:=4) I (s.ae [1]) (by decide) (by decide) (by omega) (by omega))) ?_
  rintro r h ⟨rfl,s⟩
  have s:=s.ae [1,0]
  refine az.nil ⟨⟨dZ (.inr ⟨rfl,⟨_,o_load rfl (s0.cV (k:=0) rfl cK bN)⟩,aS _ rfl⟩) (.inr ⟨rfl,⟨_,o_load rfl (s1.cV (k:=0) rfl cK bN)⟩,aS _ rfl⟩),aa,aa,aa,aa,aa,aa,aa⟩,?_⟩
  exact zg rfl (zY s 0 ik bJ rfl (zk 3 rfl (WP.ret ⟨aa,_,rfl,.inl ⟨hg,_,rfl,s.drop⟩⟩)))
 ·skip
  refine zk 3 rfl ?_
  refine au.bD s rfl rfl rfl (bI jT) (fun p6 h s => ?_)
  refine zS rfl (s.eS (j:=0) rfl bN rfl rfl) (fun h s => ?_)
  exact zk 6 rfl (zB rfl aD (rfl) (zk 8 rfl (WP.ret ⟨aa,_,rfl,.inr ⟨hg,rfl,s.drop⟩⟩)))
theorem acT {d:TypeId}{x:Operand}{r:V}(I:bj E x=some v)(J:arrPtrV P d v=some r): opE P E h (.sliceToArrayPointer d x)=some (r,h):=by simp only[opE,jA,I,J,bF]
theorem Xr {cap:Cap}(I:View h (.sl id off n cap) l)(J:isAggT P t=some true)(hs:bB P t=some l.length): loadV P h t (.ptr id off)=some (.agg (ofBytes l)):=by
 have:=I.rdN
 obtain⟨rfl,h2⟩:=this
 simp only[loadV,J,hs,h2,lY]
theorem Hx : ∀(l m:List Nat),l.length=m.length→intsBeq .u8 (ofBytes l) (ofBytes m)=some (decide (l=m)):=by
 intro l
 induction l with
 |nil=>intro m hm;cases m with
  |nil=>rfl
  |cons x m=>simp at hm
 |cons x l J=>intro m hm;cases m with
  |nil=>simp at hm
  |cons y m =>
   have hi:=J m (by simpa using hm)
   simp only[ofBytes,fu] at hi ⊢
   simp only[intsBeq,ikBeq,iT,ah,hi,kW]
   by_cases I:x=y
   ·subst I;simp
   ·have:¬ ((x:Int)=(y:Int)):=by omega
    simp[this,I]
theorem Tr : buildV Tryz.prog 281 []=some (.agg (ofBytes (List.replicate 512 0))):=by kernel_rfl
theorem V2 {x:Operand}{m:List Nat}(hu:P.underlying t=some (.array n e))(he:P.underlying e=some (.int .u8))(hs:bB P e=some 1)(I:l.length=n)(hm:m.length=n):
  binV P h .eql t x y (.agg (ofBytes l)) (.agg (ofBytes m))=some (.bool (decide (l=m))):=by
 simp only[binV,eqArr,hu,he,hs,dR,I,hm,fJ,iT,ah]
 rw[Hx l m (by omega)]
 rfl
def gM (l:List Nat): Int:=if l=List.replicate 512 0 then 0 else if cf l=false then 4 else if dF l 0 4≠DU 0 (l.drop 4) then 8 else 0
set_option maxHeartbeats 1000000 in
theorem I0 (hT:W told)(s:Sat h (X::S))(J:cN X (cP v l))(gE:l.length<9223372036854775808):
  Call ⟨Tryz.prog,told⟩ 110 [v] h fun r h'=>r=.int .i64 (gM l)∧Sat h' (X::S):=by
 have hv:=s.aG (k:=0) rfl J
 have hz:(List.replicate 512 0).length=512:=eY
 -- what follows when the page is no page of noughts
 refine Call.of_wp (hT.free _ rfl) Tryz.func110 rfl rfl (zK 8 rfl (zo rfl (aP rfl rfl rfl (aW aJ (s.aG (k:=0) rfl J))) ?_))
 refine zd rfl (ay rfl rfl dm) ?_ ?_
 ·intro hq
  have hq:l.length=512:=by simp at hq;omega
  obtain⟨pi,po,pc,rfl⟩:=iD hv (by omega)
  refine zk 2 rfl (zo rfl (acT (r:=.ptr pi po) rfl (by simp only[arrPtrV,IP];rw[hq];rfl)) ?_)
  refine zl rfl (Xr hv abo (by rw[hq];exact abn)) ?_
  refine zo rfl (cj rfl Tr) ?_
  by_cases hn:l=List.replicate 512 0
  ·skip
   exact zB rfl (V2 IP Tryz.underlying5 sz5 hq hz) (decide_eq_true hn) (zk 7 rfl (WP.ret ⟨aa,_,rfl,by rw[gM,aC hn],s⟩))
  ·skip
   refine zC rfl (V2 IP Tryz.underlying5 sz5 hq hz) (decide_eq_false hn) (zk 7 rfl (zc rfl (uJ hT s J gE) ?_))
   rintro r h' ⟨s,(⟨hg,rfl⟩|⟨hg,rfl⟩)⟩
   ·refine au.op rfl rfl rfl (bn rfl) ?_
    refine zk 2 rfl ?_
    refine au.bD s rfl rfl rfl (bI jT) (fun p3 h s => ?_)
    dsimp only[V.cells,List.length_cons,List.length_nil,Nat.reduceAdd] at s
    refine zS rfl (s.eS (j:=0) rfl bN rfl rfl) (fun h s => ?_)
    dsimp only[setA] at s
    refine zk 3 rfl (WP.block (zK 3 rfl (zC rfl aD (rfl) (zk 4 rfl ?_))))
    have s0:=s
    refine WP.drawn [none,none,some (0,2),some (0,2),af,af,af,af] rfl (by kernel_rfl) (by kernel_rfl) ?_
    refine zL rfl (s.cV (k:=0) rfl cK bN) (az.any rfl rfl rfl rfl (OpR.call rfl rfl rfl rfl (uI hT s (k:=1) rfl J (by decide) (by decide) (by decide) (by omega) (by omega))) ?_)
    rintro r h' ⟨rfl,s⟩
    have s1:=s
    refine zM rfl (zO rfl (bU (p:=some (.int .i64 4)) (q:=none) (m:=none) (p':=some 4) (q':=none) (m':=none) rfl rfl rfl rfl rfl rfl rfl (ff (s.aG (k:=1) rfl J) (a:=4) (by omega)).1) ?_)
    refine az.any rfl rfl rfl rfl (OpR.call rfl rfl rfl rfl (V0 hT s (k:=1) rfl (rH J (a:=4) (by omega)) (by simp;omega))) ?_
    rintro r h' ⟨rfl,rfl⟩
    have hc:=CP (s:=0) (l:=l.drop 4) (by decide) (fun x hx=>hv.1 x (nW hx))
    have hs:∃q c,slR (V.sl pi po l.length pc) 4 l.length=.sl pi q (l.length-4) c:=by
     cases pc with
     |exact c=>exact⟨_,_,rfl⟩
     |rest e alt=>exact⟨_,_,rfl⟩
    obtain⟨q,c,hs⟩:=hs
    have GJ:(slR (V.sl pi po l.length pc) 4 l.length).beq (slR (V.sl pi po l.length pc) 4 l.length)=true:=by rw[hs];exact HJ _ _ _ _
    refine az.op rfl rfl rfl (by simp only[isEff,br]) (bT rfl (by exact gL Tryz.underlying285 br (aA (by omega) (by omega)))) ?_
    by_cases I:dF l 0 4=DU 0 (l.drop 4)
    ·skip
     refine az.kU rfl rfl rfl rfl (ay rfl rfl aD) (by simp;exact_mod_cast I) ?_
     refine zA rfl ?_
     refine az.nil ⟨⟨aa,aa,fun _ _=>.inr ⟨rfl,⟨_,bn rfl⟩,aS _ rfl⟩,dZ (.inr ⟨rfl,⟨_,bU (p:=some (.int .i64 4)) (q:=none) (m:=none) (p':=some 4) (q':=none) (m':=none) rfl rfl rfl rfl rfl rfl rfl (ff (s0.aG (k:=1) rfl J) (a:=4) (by omega)).1⟩,GJ⟩) (.inr ⟨rfl,⟨_,bU (p:=some (.int .i64 4)) (q:=none) (m:=none) (p':=some 4) (q':=none) (m':=none) rfl rfl rfl rfl rfl rfl rfl (ff (s1.aG (k:=1) rfl J) (a:=4) (by omega)).1⟩,GJ⟩),aa,aa,aa,aa,aa⟩,?_⟩
     refine zj rfl (WP.skip (zg rfl (za rfl (zv ?_))))
     refine WP.ret ⟨aa,_,rfl,?_⟩
     exact⟨by rw[gM,ak hn,ak (by rw[hg];decide),ak (by simpa using I)],s.drop⟩
    ·skip
     refine az.vl rfl rfl rfl rfl (ay rfl rfl aD) (by simp;exact_mod_cast I) ?_
     refine zA rfl ?_
     refine az.nil ⟨⟨aa,aa,fun _ _=>.inr ⟨rfl,⟨_,bn rfl⟩,aS _ rfl⟩,dZ (.inr ⟨rfl,⟨_,bU (p:=some (.int .i64 4)) (q:=none) (m:=none) (p':=some 4) (q':=none) (m':=none) rfl rfl rfl rfl rfl rfl rfl (ff (s0.aG (k:=1) rfl J) (a:=4) (by omega)).1⟩,GJ⟩) (.inr ⟨rfl,⟨_,bU (p:=some (.int .i64 4)) (q:=none) (m:=none) (p':=some 4) (q':=none) (m':=none) rfl rfl rfl rfl rfl rfl rfl (ff (s1.aG (k:=1) rfl J) (a:=4) (by omega)).1⟩,GJ⟩),aa,aa,aa,aa,aa⟩,?_⟩
     exact zK 5 rfl (WP.ret ⟨aa,_,rfl,by rw[gM,ak hn,ak (by rw[hg];decide),aC I],s.drop⟩)
   ·skip
    refine zk 3 rfl ?_
    refine au.bD s rfl rfl rfl (bI jT) (fun p3 h s => ?_)
    refine zS rfl (s.eS (j:=0) rfl bN rfl rfl) (fun h s => ?_)
    exact zk 3 rfl (WP.block (zK 3 rfl (zB rfl aD (rfl) (zk 8 rfl (WP.ret ⟨aa,_,rfl,by rw[gM,ak hn,aC hg],s.drop⟩)))))
 ·intro hq
  have hq:l.length≠512:=by simp at hq;omega
  have hn:l≠List.replicate 512 0:=fun e=>hq (by rw[e,hz])
  have hg:cf l=false:=by rw[cf,gC hq,kG]
  refine zk 13 rfl (zc rfl (uJ hT s J gE) ?_)
  rintro r h' ⟨s,(⟨IG,rfl⟩|⟨_,rfl⟩)⟩
  ·rw[hg] at IG;cases IG
  ·refine au.op rfl rfl rfl (bn rfl) ?_
   refine zk 2 rfl ?_
   refine au.bD s rfl rfl rfl (bI jT) (fun p3 h s => ?_)
   refine zS rfl (s.eS (j:=0) rfl bN rfl rfl) (fun h s => ?_)
   exact zk 3 rfl (WP.block (zK 3 rfl (zB rfl aD (rfl) (zk 8 rfl (WP.ret ⟨aa,_,rfl,by rw[gM,ak hn,aC hg],s.drop⟩)))))
theorem sB {b:Nat}(hv:View h v l)(hb:l[i]?=some b)(he:indexAddrV Tryz.prog 23 v (.int .i64 (i:Int))=some (.ptr id off)): loadV Tryz.prog h 5 (.ptr id off)=some (.int .u8 (b:Int)):=by
 obtain⟨I,off',J,e2⟩:=fg hv hb
 rw[he] at J
 have e3:V.ptr id off=V.ptr I off':=cg J
 rw[e3]
 exact e2
theorem Mf (hT:W told)(s:Sat h (X::S))(I:cN X (cP v l))(gE:l.length<9223372036854775808):
  Call ⟨Tryz.prog,told⟩ 149 [v] h fun r h'=>Sat h' (X::S)∧((cf l=true∧r=.aQ [.int .i64 (l.getD 12 0:Nat),.int .u64 (dF l 4 8),.int .i64 (dF l 18 4),.int .i64 (dF l 22 4),.int .i64 0]) ∨
   (cf l=false∧r=.aQ [.int .i64 0,.int .u64 0,.int .i64 0,.int .i64 0,.int .i64 4])):=by
 have hv:=s.aG (k:=0) rfl I
 refine Call.of_wp (hT.free _ rfl) Tryz.func149 rfl rfl (zK 11 rfl (zc rfl (uJ hT s I gE) ?_))
 rintro r h' ⟨s,(⟨hg,rfl⟩|⟨hg,rfl⟩)⟩
 ·have hq:=fb hg
  obtain⟨pi,po,pc,rfl⟩:=iD hv (by omega)
  have J:l[12]?=some (l[12]'(by omega)):=bw _
  generalize Ge:(l[12]'(by omega))=b at J
  have zE:b<256:=hv.1 b (bK J)
  have vp:l.getD 12 0=b:=by rw[nU,J];rfl
  rw[vp]
  refine zk 3 rfl ?_
  refine au.bD s rfl rfl rfl (bI jT) (fun p7 h s => ?_)
  refine zS rfl (s.eS (j:=0) rfl bN rfl rfl) (fun h s => ?_)
  refine zk 6 rfl (zC rfl aD (rfl) (zk 4 rfl ?_))
  have s0:=s
  obtain⟨id,off,e1,e2⟩:=fg (s.aG (k:=1) rfl I) J
  refine WP.drawn [some (0,4),some (0,4),some (0,4),some (0,4),af,af,af,some (0,2),none,some (0,3),af,af,af,af,af,af] rfl (by kernel_rfl) (by kernel_rfl) ?_
  refine zM rfl (zO rfl (c8 (r:=.ptr id off) rfl rfl e1) (zL rfl (sB (s.aG (k:=1) rfl I) J e1) (az.op rfl rfl rfl (by simp only[isEff,br]) (bT rfl (by exact gL Tryz.underlying5 br (aA (by omega) (by omega)))) ?_)))
  refine zM rfl (zO rfl (bU (p:=some (.int .i64 4)) (q:=some (.int .i64 12)) (m:=none) (p':=some 4) (q':=some 12) (m':=none) rfl rfl rfl rfl rfl rfl rfl (dc (s.aG (k:=1) rfl I) (a:=4) (b:=12) (by omega) (by omega)).1) ?_)
  refine az.any rfl rfl rfl rfl (OpR.call rfl rfl rfl rfl (mz hT s (k:=1) rfl (jJ I (a:=4) (b:=12) (by omega) (by omega)) (by simp;omega))) ?_
  rintro r h' ⟨rfl,rfl⟩
  have s1:=s
  refine zL rfl (s.cV (k:=0) rfl cK bN) (az.any rfl rfl rfl rfl (OpR.call rfl rfl rfl rfl (uI hT s (k:=1) rfl I (by decide) (by decide) (by decide) (by omega) (by omega))) ?_)
  rintro r h' ⟨rfl,s⟩
  have s2:=s
  refine zL rfl (s.cV (k:=0) rfl cK bN) (az.any rfl rfl rfl rfl (OpR.call rfl rfl rfl rfl (uI hT s (k:=1) rfl I (by decide) (by decide) (by decide) (by omega) (by omega))) ?_)
  rintro r h' ⟨rfl,s⟩
  refine zA rfl (zA rfl (zA rfl (zA rfl (zA rfl ?_))))
  refine az.nil ⟨⟨fun _ _=>.inr ⟨rfl,⟨_,bn rfl⟩,aS _ rfl⟩,fun _ _=>.inr ⟨rfl,⟨_,c8 (r:=.ptr id off) rfl rfl e1⟩,aS _ rfl⟩,Zx (.inr ⟨rfl,⟨_,o_load rfl (sB (s0.aG (k:=1) rfl I) J e1)⟩,aS _ rfl⟩) (.inr ⟨rfl,⟨_,o_load rfl (sB (s1.aG (k:=1) rfl I) J e1)⟩,aS _ rfl⟩) (.inr ⟨rfl,⟨_,o_load rfl (sB (s2.aG (k:=1) rfl I) J e1)⟩,aS _ rfl⟩) (.inr ⟨rfl,⟨_,o_load rfl (sB (s.aG (k:=1) rfl I) J e1)⟩,aS _ rfl⟩),fun _ _=>.inr ⟨rfl,⟨_,bT rfl (by exact gL Tryz.underlying5 br (aA (by omega) (by omega)))⟩,aS _ rfl⟩,aa,aa,aa,dZ (.inr ⟨rfl,⟨_,o_load rfl (s0.cV (k:=0) rfl cK bN)⟩,aS _ rfl⟩) (.inr ⟨rfl,⟨_,o_load rfl (s1.cV (k:=0) rfl cK bN)⟩,aS _ rfl⟩),aa,sA (.inr ⟨rfl,⟨_,o_load rfl (s0.cV (k:=0) rfl cK bN)⟩,aS _ rfl⟩) (.inr ⟨rfl,⟨_,o_load rfl (s1.cV (k:=0) rfl cK bN)⟩,aS _ rfl⟩) (.inr ⟨rfl,⟨_,o_load rfl (s2.cV (k:=0) rfl cK bN)⟩,aS _ rfl⟩),aa,aa,aa,aa,aa,aa,aa⟩,?_⟩
  refine WP.ret ⟨aa,_,rfl,?_⟩
  exact⟨s.drop,.inl ⟨hg,rfl⟩⟩
 ·skip
  refine zk 3 rfl ?_
  refine au.bD s rfl rfl rfl (bI jT) (fun p7 h s => ?_)
  refine zS rfl (s.eS (j:=0) rfl bN rfl rfl) (fun h s => ?_)
  exact zk 6 rfl (zB rfl aD (rfl) (zk 11 rfl (WP.ret ⟨aa,_,rfl,s.drop,.inr ⟨hg,rfl⟩⟩)))
end
structure Lg where
 base:Nat
 b:List Nat
 cE:List Nat
 forced:Nat
 check:Nat
variable {μ:Lg}
def jW (l:List Nat): List V:=l.map fun(n:Nat)=>V.int .i64 (n:Int)
theorem vr (l:List Nat): (jW l).length=l.length:=by simp[jW]
def Ao (p base:Nat)(bv I:V)(forced check:Nat): List V:=[.ptr p 0,.int .u64 (base:Int),bv,I,.int .i64 (forced:Int),.int .u64 (check:Int)]
def bS (q p:Nat)(μ:Lg): aI:=xs fun bv:V=>xs fun I:V=>star [pt q (.cells 6 (Ao p μ.base bv I μ.forced μ.check) false),aZ bv μ.b,.arr 1 I (jW μ.cE)]
structure Lg.Ok (μ:Lg): Prop where
 size:μ.base+μ.b.length≤1099511627776
 many:μ.cE.length≤16777216
 low:∀s∈μ.cE,s<μ.b.length
 FJ:μ.cE.Pairwise (· < ·)
 forced:μ.forced≤μ.b.length
 len:μ.b.length≤16777216
 check:μ.check≤1099511627776
theorem abz {x:Operand}{b:Nat}(I:a+b<4611686018427387904): binV P h .quo t x y (.int .i64 ((a:Int)+(b:Int))) (.int .i64 2)=some (.int .i64 (((a+b)/2:Nat):Int)):=by
 simp only[binV,ikBeq,ah,intV]
 rw[show intBeq 2 0=false from rfl,aX,Int.tdiv_eq_ediv_of_nonneg (by omega),aA (by omega) (by omega)]
 congr 2
section
variable {told:cJ} {p:Nat} {v:V}
theorem fW : Sat h (bS q p μ::S)↔∃bv I,Sat h (pt q (.cells 6 (Ao p μ.base bv I μ.forced μ.check) false)::aZ bv μ.b::.arr 1 I (jW μ.cE)::S):=by
 simp only[bS,gK,aM,iS,dU]
theorem kJ {c:V}(s:Sat h S)(hk:getA S k=some (.arr 1 v cs))(hi:cs[i]?=some c)(hu:P.underlying t=some (.slice e))(I:bB P e=some 1):
  ∃id off,indexAddrV P t v (.int .i64 (i:Int))=some (.ptr id off)∧∀t',isAggT P t'=some false→loadV P h t' (.ptr id off)=some c:=by
 have J:i<cs.length:=(List.getElem?_eq_some_iff.1 hi).1
 obtain⟨m,r,h1,h2,h3⟩:=s.at hk
 rcases h3.2 with⟨_,rfl⟩|⟨id,n,cap,N,rest,rfl,hg,e1,e2,_⟩
 ·simp at hi
 ·refine⟨id,i,?_,fun t' ht=>Vx ht (h1 _ _ hg) ?_⟩
  ·simp only[indexAddrV,hu,I,cL]
   rw[show(decide ((0:Int)≤(i:Int))&&decide ((i:Int)<(n:Int)))=true by simp;omega,ah]
   simp
  ·rw[gH,vZ J,hi]
theorem sC (I:W told)(s:Sat h (bS q p μ::S)): Call ⟨Tryz.prog,told⟩ 52 [.ptr q 0] h fun v h'=>v=.int .u64 (μ.base:Int)∧h'=h:=by
 obtain⟨bv,J,s⟩:=fW.1 s
 exact Call.of_wp (I.free _ rfl) Tryz.func52 rfl rfl (zK 8 rfl (zY s 0 mq dL rfl (zk 2 rfl (WP.ret ⟨aa,_,rfl,rfl,rfl⟩))))
theorem Ci (I:W told)(s:Sat h (bS q p μ::S)): Call ⟨Tryz.prog,told⟩ 65 [.ptr q 0] h fun v h'=>v=.int .u64 (μ.check:Int)∧h'=h:=by
 obtain⟨bv,J,s⟩:=fW.1 s
 exact Call.of_wp (I.free _ rfl) Tryz.func65 rfl rfl (zK 8 rfl (zY s 0 L2 dL rfl (zk 2 rfl (WP.ret ⟨aa,_,rfl,rfl,rfl⟩))))
theorem ue (I:W told)(s:Sat h (bS q p μ::S))(J:μ.base+μ.b.length≤1099511627776): Call ⟨Tryz.prog,told⟩ 43 [.ptr q 0] h fun v h'=>v=.int .u64 ((μ.base:Int)+(μ.b.length:Int))∧h'=h:=by
 obtain⟨bv,sv,s⟩:=fW.1 s
 refine Call.of_wp (I.free _ rfl) Tryz.func43 rfl rfl (zK 5 rfl (WP.drawn [af,af,af,af,af,af,af,af,af,af,af,af] rfl (by kernel_rfl) (by kernel_rfl) ?_))
 refine zM rfl (zN rfl (zF rfl (mq _ _) (zL rfl (s.ld (k:=0) rfl dL rfl) (zM rfl (zN rfl (zF rfl (e_ _ _) (zL rfl (s.ld (k:=0) rfl bJ rfl) (zO rfl (aP rfl rfl rfl (aW aJ (s.aG (k:=1) rfl (aN _ _)))) (az.op rfl rfl rfl (by simp only[isEff,bR]) (bT rfl (by exact gL br bR (eP (by omega) (by omega)))) ?_)))))))))
 refine zO rfl (ay rfl rfl (by exact bf (eP (by omega) (by omega)))) ?_
 refine zA rfl ?_
 refine az.nil ⟨⟨aa,aa,aa,aa,aa,aa,aa,aa,aa,aa,aa,aa,aa⟩,?_⟩
 refine WP.ret ⟨aa,_,rfl,?_⟩
 exact⟨rfl,rfl⟩
theorem N7 (I:W told)(s:Sat h (bS q p μ::S))(J:μ.base+μ.b.length≤1099511627776)(hf:μ.forced≤μ.b.length): Call ⟨Tryz.prog,told⟩ 16 [.ptr q 0] h fun v h'=>v=.int .u64 ((μ.base:Int)+(μ.forced:Int))∧h'=h:=by
 obtain⟨bv,sv,s⟩:=fW.1 s
 refine Call.of_wp (I.free _ rfl) Tryz.func16 rfl rfl (zK 5 rfl (WP.drawn [af,af,af,af,af,af,af,af,af,af,af] rfl (by kernel_rfl) (by kernel_rfl) ?_))
 refine zM rfl (zN rfl (zF rfl (mq _ _) (zL rfl (s.ld (k:=0) rfl dL rfl) (zM rfl (zN rfl (zF rfl (wX _ _) (zL rfl (s.ld (k:=0) rfl dJ rfl) (az.op rfl rfl rfl (by simp only[isEff,bR]) (bT rfl (by exact gL br bR (eP (by omega) (by omega)))) ?_))))))))
 refine zO rfl (ay rfl rfl (by exact bf (eP (by omega) (by omega)))) ?_
 refine zA rfl ?_
 refine az.nil ⟨⟨aa,aa,aa,aa,aa,aa,aa,aa,aa,aa,aa,aa⟩,?_⟩
 refine WP.ret ⟨aa,_,rfl,?_⟩
 exact⟨rfl,rfl⟩
def Split (μ:Lg)(n i:Nat): Prop:=i≤μ.cE.length∧(∀(j s:Nat),j<i→μ.cE[j]?=some s→μ.base+s<n)∧(∀(j s:Nat),i≤j→μ.cE[j]?=some s→n≤μ.base+s)
theorem FK (J:l.Pairwise (· < ·)){b:Nat}(I:i<j)(ha:l[i]?=some a)(hb:l[j]?=some b): a<b:=by
 obtain⟨h1,rfl⟩:=List.getElem?_eq_some_iff.1 ha
 obtain⟨h2,rfl⟩:=List.getElem?_eq_some_iff.1 hb
 exact List.pairwise_iff_getElem.1 J _ _ h1 h2 I
noncomputable def lfL : Code:=cU [1,1,0,0,0] ((Tryz.f184.body).getD .skip)
theorem Qo {sv:V}(hn:n<18446744073709551616)(I:μ.Ok)(s:Sat h (pt q (.cells 6 (Ao p μ.base bv sv μ.forced μ.check) false)::aZ bv μ.b::.arr 1 sv (jW μ.cE)::S)): ∀(fuel lo hi:Nat) (E:List (Nat×V)) (Q:Ex→List (Nat×V)→H→Prop),hi-lo≤fuel→lo≤hi→hi≤μ.cE.length →
  (∀(j s:Nat),j<lo→μ.cE[j]?=some s→μ.base+s<n)→(∀(j s:Nat),hi≤j→μ.cE[j]?=some s→n≤μ.base+s) →
  Has E [(0,.ptr q 0),(1,.int .u64 (n:Int)),(5,.int .i64 (lo:Int)),(6,.int .i64 (hi:Int))]→(∀E' i,Split μ n i→look E' 5=some (.int .i64 (i:Int))→Q (.exit 0) E' h)→WP ⟨Tryz.prog,told⟩ 39 (.loop lfL) E h Q:=by
 have DW:=I.many
 have N8:=I.size
 intro fuel
 induction fuel with
 |zero =>
  intro lo hi E Q hf h1 h2 h3 h4 hE hq
  refine WP.loop (WP.has hE (zK 5 rfl (zC rfl aT (by simp;omega) ?_)))
  refine zk 2 rfl (WP.exit ?_)
  have e:lo=hi:=by omega
  exact hq _ lo ⟨by omega,h3,by rw[e];exact h4⟩ rfl
 |succ fuel ih =>
  intro lo hi E Q hf h1 h2 h3 h4 hE hq
  by_cases cH:lo<hi
  ·skip
   refine WP.loop (WP.has hE (zK 5 rfl (zB rfl aT (by simp;omega) ?_)))
   refine zk 3 rfl (WP.block (zK 4 rfl (zb rfl (by exact bf (aA (by omega) (by omega))) ?_)))
   refine zb rfl (abz (by omega)) ?_
   refine zk 3 rfl ?_
   generalize hm:(lo+hi)/2=m
   have Ce:lo≤m:=by omega
   have B6:m<hi:=by omega
   obtain⟨st,J⟩:∃st,μ.cE[m]?=some st:=⟨_,bw (by omega)⟩
   have ZE:=I.low st (bK J)
   have hlen:=I.len
   have hc:(jW μ.cE)[m]?=some (.int .i64 (st:Int)):=by simp[jW,J]
   obtain⟨id,off,e1,e2⟩:=kJ (P:=Tryz.prog) s (k:=2) rfl hc gW lR
   refine WP.drawn [af,af,af,af,af,af,af,af,af,af,af,af,af,af,af] rfl (by kernel_rfl) (by kernel_rfl) ?_
   refine zM rfl (zN rfl (zF rfl (mq _ _) (zL rfl (s.ld (k:=0) rfl dL rfl) (zM rfl (zN rfl (zF rfl (od _ _) (zL rfl (s.ld (k:=0) rfl vm rfl) (zM rfl (zO rfl (c8 (r:=.ptr id off) rfl rfl e1) (zL rfl (e2 _ dJ) (az.op rfl rfl rfl (by simp only[isEff,bR]) (bT rfl (by exact gL br bR (eP (by omega) (by omega)))) ?_)))))))))))
   refine zO rfl (ay rfl rfl (by exact bf (eP (by omega) (by omega)))) ?_
   refine zM rfl ?_
   by_cases yL:μ.base+st<n
   ·skip
    refine az.vl rfl rfl rfl rfl (ay rfl rfl aT) (by simp;omega) ?_
    refine az.nil ⟨⟨aa,aa,aa,aa,aa,aa,aa,aa,aa,aa,aa,aa,aa,aa,aa,aa⟩,?_⟩
    refine zK 3 rfl (zb rfl (by exact bf (aA (by omega) (by omega))) ?_)
    refine za rfl (zv ?_)
    refine ih (m+1) hi _ Q (by omega) (by omega) h2 (fun j s hj hs => ?_) h4 ⟨rfl,rfl,rfl,rfl,aa⟩ hq
    by_cases ZP:j=m
    ·subst ZP;rw[J] at hs;injection hs with hs;omega
    ·have:=FK I.FJ (show j<m by omega) hs J;omega
   ·skip
    refine az.kU rfl rfl rfl rfl (ay rfl rfl aT) (by simp;omega) ?_
    refine az.nil ⟨⟨aa,aa,aa,aa,aa,aa,aa,aa,aa,aa,aa,aa,aa,aa,aa,aa⟩,?_⟩
    refine zj rfl (zr rfl (zk 2 rfl (zv ?_)))
    refine ih lo m _ Q (by omega) Ce (by omega) h3 (fun j s hj hs => ?_) ⟨rfl,rfl,rfl,rfl,aa⟩ hq
    by_cases ZP:j=m
    ·subst ZP;rw[J] at hs;injection hs with hs;omega
    ·have:=FK I.FJ (show m<j by omega) J hs;omega
  ·skip
   refine WP.loop (WP.has hE (zK 5 rfl (zC rfl aT (by simp;omega) ?_)))
   refine zk 2 rfl (WP.exit ?_)
   have e:lo=hi:=by omega
   exact hq _ lo ⟨by omega,h3,by rw[e];exact h4⟩ rfl
theorem Xs (hT:W told)(s:Sat h (bS q p μ::S))(I:μ.Ok)(hn:n<18446744073709551616): Call ⟨Tryz.prog,told⟩ 184 [.ptr q 0,.int .u64 (n:Int)] h fun v h'=>h'=h∧∃i,Split μ n i∧v=.int .i64 (i:Int):=by
 obtain⟨bv,sv,s⟩:=fW.1 s
 refine Call.of_wp (hT.free _ rfl) Tryz.func184 rfl rfl (zK 5 rfl (WP.drawn [af,af,af,af,af,af,af] rfl (by kernel_rfl) (by kernel_rfl) ?_))
 refine zM rfl (zN rfl (zF rfl (od _ _) (zL rfl (s.ld (k:=0) rfl vm rfl) (zO rfl (aP rfl rfl rfl (s.fR (n:=μ.cE.length) (j:=2) rfl (by rw[vr,iV]) (by decide) gW)) ?_))))
 refine zA rfl (zA rfl ?_)
 refine az.nil ⟨⟨aa,aa,aa,aa,aa,aa,aa,aa⟩,?_⟩
 refine zw (WP.block ?_)
 refine Qo hn I s μ.cE.length 0 μ.cE.length _ _ (by omega) (by omega) (by omega) (fun j s hj _=>by omega) (fun j s hj hs => ?_) ⟨rfl,rfl,rfl,rfl,aa⟩ (fun E' i hi J => ?_)
 ·rw[List.getElem?_eq_none (by omega)] at hs;cases hs
 ·skip
  exact WP.has (F:=[(5,.int .i64 (i:Int))]) ⟨J,aa⟩ (zK 5 rfl (WP.ret ⟨aa,_,rfl,rfl,i,hi,rfl⟩))
def Lg.hasB (μ:Lg)(n:Nat): Bool:=μ.cE.any fun s=>decide (μ.base+s=n)
theorem Split.has (hs:Split μ n i)(hr:μ.cE.Pairwise (· < ·)): μ.hasB n=true↔∃s,μ.cE[i]?=some s∧μ.base+s=n:=by
 rw[Lg.hasB,List.any_eq_true]
 constructor
 ·rintro⟨s,h1,I⟩
  have I:μ.base+s=n:=by simpa using I
  obtain⟨j,J⟩:=A4 h1
  have si:i≤j:=by
   rcases tN j i with h|h
   ·have:=hs.2.1 j s h J;omega
   ·exact h
  by_cases he:i=j
  ·subst he;exact⟨s,J,I⟩
  ·have hjl:=(List.getElem?_eq_some_iff.1 J).1
   have hi:μ.cE[i]?=some (μ.cE[i]'(by omega)):=bw _
   have h3:=hs.2.2 i _ (aV _) hi
   have h4:=FK hr (show i<j by omega) hi J
   omega
 ·rintro⟨s,h1,I⟩
  exact⟨s,bK h1,by simpa using I⟩
theorem Qp {st:Nat}(I:μ.cE[i]?=some st): (jW μ.cE)[i]?=some (.int .i64 (st:Int)):=by simp[jW,I]
theorem Mg (hT:W told)(s:Sat h (bS q p μ::S))(I:μ.Ok)(hn:n<18446744073709551616): Call ⟨Tryz.prog,told⟩ 129 [.ptr q 0,.int .u64 (n:Int)] h fun v h'=>h'=h∧v=.bool (μ.hasB n):=by
 have s0:=s
 obtain⟨bv,sv,s⟩:=fW.1 s
 have DW:=I.many
 have N8:=I.size
 refine Call.of_wp (hT.free _ rfl) Tryz.func129 rfl rfl (zK 8 rfl (zc rfl (Xs hT s0 I hn) ?_))
 rintro v h' ⟨rfl,i,hi,rfl⟩
 have hh:=hi.has I.FJ
 refine zk 3 rfl (WP.drawn [af,af,af,af,af,af,af,af,af,af,af,af,af,af,af,af,af,af,af,af,af,af,af,af,af] rfl (by kernel_rfl) (by kernel_rfl) ?_)
 refine zM rfl (zM rfl (zN rfl (zF rfl (od _ _) (zL rfl (s.ld (k:=0) rfl vm rfl) (zO rfl (aP rfl rfl rfl (s.fR (n:=μ.cE.length) (j:=2) rfl (by rw[vr,iV]) (by decide) gW)) ?_)))))
 by_cases LS:i<μ.cE.length
 ·skip
  refine az.vl rfl rfl rfl rfl (ay rfl rfl aT) (by simp;omega) ?_
  obtain⟨st,J⟩:∃st,μ.cE[i]?=some st:=⟨_,bw LS⟩
  have ZE:=I.low st (bK J)
  obtain⟨id,off,e1,e2⟩:=kJ (P:=Tryz.prog) s (k:=2) rfl (Qp J) gW lR
  refine zM rfl (zM rfl (zN rfl (zF rfl (mq _ _) (zL rfl (s.ld (k:=0) rfl dL rfl) (zM rfl (zN rfl (zF rfl (od _ _) (zL rfl (s.ld (k:=0) rfl vm rfl) (zM rfl (zO rfl (c8 (r:=.ptr id off) rfl rfl e1) (zL rfl (e2 _ dJ) (az.op rfl rfl rfl (by simp only[isEff,bR]) (bT rfl (by exact gL br bR (eP (by omega) (by omega)))) ?_))))))))))))
  refine zO rfl (ay rfl rfl (by exact bf (eP (by omega) (by omega)))) ?_
  refine zM rfl ?_
  by_cases he:μ.base+st=n
  ·skip
   refine az.vl rfl rfl rfl rfl (ay rfl rfl dm) (by simp;omega) ?_
   refine zO rfl (ru rfl rfl) (zA rfl ?_)
   refine az.nil ⟨⟨aa,aa,aa,aa,aa,aa,aa,aa,aa,aa,aa,aa,aa,aa,aa,aa,aa,aa,aa,aa,aa,aa,aa,aa,aa,aa⟩,?_⟩
   refine WP.ret ⟨aa,_,rfl,?_⟩
   exact⟨rfl,by rw[hh.2 ⟨st,J,he⟩]⟩
  ·skip
   refine az.kU rfl rfl rfl rfl (ay rfl rfl dm) (by simp;omega) ?_
   refine zO rfl (ru rfl rfl) (zA rfl ?_)
   refine az.nil ⟨⟨aa,aa,aa,aa,aa,aa,aa,aa,aa,aa,aa,aa,aa,aa,aa,aa,aa,aa,aa,aa,aa,aa,aa,aa,aa,aa⟩,?_⟩
   refine WP.ret ⟨aa,_,rfl,?_⟩
   refine⟨rfl,?_⟩
   cases hb:μ.hasB n with
   |false=>rfl
   |true =>
    obtain⟨s',h1,h2⟩:=hh.1 hb
    rw[J] at h1;have:=cg h1;omega
 ·skip
  refine az.kU rfl rfl rfl rfl (ay rfl rfl aT) (by simp;omega) ?_
  refine zM rfl (az.no (e:=false) rfl rfl rfl rfl (az.no (e:=false) rfl rfl rfl rfl (az.no (e:=false) rfl rfl rfl rfl (az.no (e:=false) rfl rfl rfl rfl (az.no (e:=false) rfl rfl rfl rfl (az.no (e:=false) rfl rfl rfl rfl (az.no (e:=false) rfl rfl rfl rfl (az.no (e:=false) rfl rfl rfl rfl (az.no (e:=false) rfl rfl rfl rfl (az.no (e:=false) rfl rfl rfl rfl (az.no (e:=false) rfl rfl rfl rfl (az.no (e:=false) rfl rfl rfl (by simp only[isEff,bR]) ?_))))))))))))
  refine az.no (e:=false) rfl rfl rfl rfl (az.no (e:=false) rfl rfl rfl rfl (az.no (e:=false) rfl rfl rfl rfl (zO rfl (mo rfl rfl) (zA rfl ?_))))
  refine az.nil ⟨⟨aa,aa,aa,aa,aa,aa,aa,aa,aa,aa,aa,aa,aa,aa,aa,aa,aa,aa,aa,aa,aa,aa,aa,aa,aa,aa⟩,?_⟩
  refine WP.ret ⟨aa,_,rfl,?_⟩
  refine⟨rfl,?_⟩
  cases hb:μ.hasB n with
  |false=>rfl
  |true =>
   obtain⟨s',h1,h2⟩:=hh.1 hb
   have:=(List.getElem?_eq_some_iff.1 h1).1
   omega
theorem Qq (J:W told)(s:Sat h (bS q p μ::aO p δ::S))(I:μ.Ok)(hf:δ.aU<4294967296): Call ⟨Tryz.prog,told⟩ 93 [.ptr q 0,.int .u64 (n:Int)] h fun v h' =>
  (n<μ.base+μ.forced∧v=.int .i64 0∧Sat h' (bS q p μ::aO p δ::S)) ∨
  (μ.base+μ.forced≤n∧δ.dead=true∧v=.int .i64 9∧Sat h' (bS q p μ::aO p δ::S)) ∨
  (μ.base+μ.forced≤n∧δ.dead=false∧δ.aU=0∧v=.int .i64 9∧Sat h' (bS q p μ::aO p δ.die::S)) ∨
  (μ.base+μ.forced≤n∧δ.dead=false∧δ.aU≠0∧v=.int .i64 0∧Sat h' (bS q p { μ with forced:=μ.b.length }::aO p { δ.dh with bu:=δ.log.length }::S)):=by
 have N8:=I.size
 have Mh:=I.forced
 have s0:=s
 obtain⟨bv,sv,s⟩:=fW.1 s
 refine Call.of_wp (J.free _ rfl) Tryz.func93 rfl rfl (zK 9 rfl (zc rfl (N7 J s0 I.size I.forced) ?_))
 rintro v h' ⟨rfl,rfl⟩
 by_cases cH:n<μ.base+μ.forced
 ·skip
  refine zB rfl aT (by simp;omega) ?_
  exact zk 6 rfl (WP.ret ⟨aa,_,rfl,.inl ⟨cH,rfl,s0⟩⟩)
 ·have hle:μ.base+μ.forced≤n:=by omega
  refine zC rfl aT (by simp;omega) ?_
  refine zk 8 rfl (zY s 0 L1 qv rfl (zc rfl (GH J (s0.ae [1]) hf) ?_))
  rintro v h (⟨hd,rfl,s⟩|⟨hd,h0,rfl,s⟩|⟨hd,h0,rfl,s⟩)
  ·refine au.op rfl rfl rfl (fq rfl) ?_
   exact zk 4 rfl (zB rfl aD (rfl) (zk 7 rfl (WP.ret ⟨aa,_,rfl,.inr (.inl ⟨hle,hd,rfl,s.ae [1]⟩)⟩)))
  ·skip
   exact zk 5 rfl (zB rfl aD (rfl) (zk 7 rfl (WP.ret ⟨aa,_,rfl,.inr (.inr (.inl ⟨hle,hd,h0,rfl,s.ae [1]⟩))⟩)))
  ·skip
   obtain⟨bv,sv,s⟩:=fW.1 (s.ae [1])
   refine zk 5 rfl (zC rfl aD (rfl) (zk 8 rfl (zY s 0 e_ bJ rfl (zo rfl (aP rfl rfl rfl (aW aJ (s.aG (k:=1) rfl (aN _ _)))) (zn rfl (zf rfl (wX _ _) ?_))))))
   refine zS rfl (by exact s.dK (k:=0) rfl lR rfl (by decide) rfl rfl) (fun h s => ?_)
   exact zk 5 rfl (WP.ret ⟨aa,_,rfl,.inr (.inr (.inr ⟨hle,hd,h0,rfl,fW.2 ⟨bv,sv,s⟩⟩))⟩)
end
structure bZ where
 aK:Int
 pos:Int
 whole:Bool
 b:List Nat
def bZ.Ok (c:bZ): Prop:=0≤c.aK∧c.aK<65536∧0≤c.pos∧c.pos≤512∧(c.b.length:Int)≤512-c.pos∧(c.whole=true→c.pos=0∧c.b.length=512)
instance (c:bZ):Decidable c.Ok:=by unfold bZ.Ok;infer_instance
def dV (kind:Int)(aR:List bZ): Bool:=decide (1≤kind∧kind≤9)&&aR.all fun c=>decide c.Ok
def dx (kd:Int)(tx pv nx:Nat)(dt ch:V): List V:=[.int .i64 kd,.int .u64 (tx:Int),.int .u64 (pv:Int),.int .u64 (nx:Int),dt,ch]
theorem jc {kd:Int}{ch:V}(hd:storable dt=true)(I:storable ch=true): (dx kd tx pv nx dt ch).all storable=true:=by
 simp only[dx,iU,jd,hd,I]
 rfl
def c9 : List V→List bZ→aI
 |[],[]=>.pu True
 |p::a::w::v::l,x::m=>.an (.an (.pu (p=.int .i64 x.aK∧a=.int .i64 x.pos∧w=.bool x.whole)) (.cD v x.b)) (c9 l m)
 |_,_=>.pu False
theorem bg.nq : ∀(m:List bZ) (l:List V),bg (c9 l m):=by
 intro m
 induction m with
 |nil=>intro l;rcases l with _|⟨a,_|⟨b,_|⟨c,_|⟨d,l⟩⟩⟩⟩<;>exact bg.pu _
 |cons x m I=>intro l;rcases l with _|⟨a,_|⟨b,_|⟨c,_|⟨d,l⟩⟩⟩⟩<;>first|exact bg.pu _|exact bg.an (bg.an (bg.pu _) (bg.cD _ _)) (I l)
theorem nI {a b:PM}: ∀ {m:List bZ} {l:List V},(c9 l m).p a b→l.length=m.length*4:=by
 intro m
 induction m with
 |nil=>intro l h;rcases l with _|⟨x,_|⟨y,_|⟨z,_|⟨d,l⟩⟩⟩⟩<;>first|rfl|exact h.elim
 |cons x m I =>
  intro l h
  rcases l with _|⟨x,_|⟨y,_|⟨z,_|⟨d,l⟩⟩⟩⟩<;>first|exact h.elim|skip
  have:=I h.2
  simp only[bz]
  omega
theorem xZ {a b:PM}: ∀ {m m':List bZ} {l I:List V},(c9 l m).p a b→(c9 I m').p a b→(c9 (l++I) (m++m')).p a b:=by
 intro m
 induction m with
 |nil=>intro m' l I h h';rcases l with _|⟨x,_|⟨y,_|⟨z,_|⟨d,l⟩⟩⟩⟩<;>first|exact h'|exact h.elim
 |cons x m J =>
  intro m' l I h h'
  rcases l with _|⟨x,_|⟨y,_|⟨z,_|⟨d,l⟩⟩⟩⟩<;>first|exact h.elim|exact⟨h.1,J h.2 h'⟩
theorem I1 {a b:PM}: ∀ {m:List bZ} {l:List V} {i:Nat} {c:bZ},(c9 l m).p a b→m[i]?=some c→∃u,(l.drop (i*4)).take 4=[.int .i64 c.aK,.int .i64 c.pos,.bool c.whole,u]∧(aI.cD u c.b).p a b:=by
 intro m
 induction m with
 |nil=>intro l i c h I;simp at I
 |cons x m J =>
  intro l i c h I
  rcases l with _|⟨p,_|⟨q,_|⟨w,_|⟨v,l⟩⟩⟩⟩<;>first|exact h.elim|skip
  obtain⟨⟨⟨h1,h2,h3⟩,h4⟩,h5⟩:=h
  cases i with
  |zero=>simp at I;subst I;exact⟨v,by rw[h1,h2,h3];rfl,h4⟩
  |succ i =>
   simp at I
   obtain⟨u,e1,e2⟩:=J h5 I
   refine⟨u,?_,e2⟩
   rw[←e1,show(i+1)*4=i*4+4 by omega]
   rfl
section
variable {told:cJ} {p:Nat} {v:V}
theorem DX {ch:V}{m:List bZ}{c:bZ}(s:Sat h (.arr 4 ch cs::c9 cs m::S))(hc:m[i]?=some c):
  ∃id off u,indexAddrV Tryz.prog 102 ch (.int .i64 (i:Int))=some (.ptr id off)∧loadV Tryz.prog h 237 (.ptr id off)=some (.agg [.int .i64 c.aK,.int .i64 c.pos,.bool c.whole,u]) ∧
   u.cells=[u]∧storable u=true∧u.beq u=true∧Sat h (.cD u c.b::.arr 4 ch cs::c9 cs m::S):=by
 obtain⟨a,b,q1,q2,q3⟩:=s.at (k:=1) rfl
 have LS:=(List.getElem?_eq_some_iff.1 hc).1
 have hl:=nI q3
 obtain⟨u,e1,e2⟩:=I1 q3 hc
 obtain⟨id,off,g1,J⟩:=Qb (P:=Tryz.prog) (i:=i) s (j:=0) rfl (by omega) (by decide) iF og
 have J:=J HQ
 rw[e1] at J
 have s2:Sat h (c9 cs m::.arr 4 ch cs::S):=s.ae [1]
 have s3:=(s2.dup (bg.nq _ _)).iu (B:=.cD u c.b) fun a b h=>by
  obtain⟨u',I,sD⟩:=I1 h hc
  rw[e1] at I
  injection I with _ I
  injection I with _ I
  injection I with _ I
  injection I with I _
  subst I
  exact sD
 have hu:=(s3.aG (k:=0) rfl (dy _ _))
 exact⟨id,off,u,g1,J,hu.cells.1,hu.cells.2,cX hu,s3.ae [0,1,0]⟩
theorem Mi {ch:V}{m:List bZ}(s:Sat h S)(I:getA S j1=some (.arr 4 ch cs))(J:getA S j2=some (c9 cs m))(hu:P.underlying t=some (.slice e)): lenV P h t ch=some (.int .i64 m.length):=by
 obtain⟨a,b,q1,q2,q3⟩:=s.at J
 exact s.fR I (nI q3) (by decide) hu
theorem Sat.xg {ch:V}{m:List bZ}(s:Sat h S)(I:getA S j1=some (.arr 4 ch cs))(J:getA S j2=some (c9 cs m))(hu:P.underlying t=some (.slice e)): lenV P h t ch=some (.int .i64 m.length):=Mi s I J hu
noncomputable def gwL : Code:=cU [1,1,0,1,0,0] ((Tryz.f211.body).getD .skip)
set_option maxHeartbeats 1000000 in
theorem N9 {ch:V}{m:List bZ}: ∀(j i:Nat) (h:H) (E:List (Nat×V)) (Q:Ex→List (Nat×V)→H→Prop),i+j=m.length→m.length<4294967296→(∀c∈m,c.b.length<9223372036854775808) →
  (∀c∈m, -4294967296≤c.pos∧c.pos≤4294967296)→Sat h (.arr 4 ch cs::c9 cs m::S)→Has E [(1,.ptr p1 0),(14,ch),(15,.int .i64 m.length),(16,.int .i64 i)] →
  ((m.drop i).all (fun c=>decide c.Ok)=false→∀E' h',look E' 2=some (.bool false)→Sat h' (.arr 4 ch cs::c9 cs m::S)→Q .ret E' h') →
  ((m.drop i).all (fun c=>decide c.Ok)=true→∀E' h',Sat h' (.arr 4 ch cs::c9 cs m::S)→Q (.exit 0) E' h')→WP ⟨Tryz.prog,told⟩ 61 (.loop gwL) E h Q:=by
 intro j
 induction j with
 |zero =>
  intro i h E Q hi hm hb J s hE hr hx
  refine WP.loop (WP.has hE (zg rfl (zC rfl aT (by simp;omega) ?_)))
  exact zk 3 rfl (WP.exit (hx (by rw[lW (by omega)];rfl) _ _ s))
 |succ j ih =>
  intro i h E Q hi hm hb J s hE hr hx
  have hc:m[i]?=some (m[i]'(by omega)):=bw _
  generalize (m[i]'(by omega))=c at hc
  have GK:=bK hc
  have hcb:=hb c GK
  have hcp:=J c GK
  have qA:m.drop i=c::m.drop (i+1):=by
   have:=List.getElem?_eq_some_iff.1 hc
   obtain⟨h1,rfl⟩:=this
   exact pJ h1
  rw[qA,iU] at hr hx
  obtain⟨id,off,u,e1,e2,u1,u2,u3,s⟩:=DX s hc
  refine WP.loop (WP.has hE (zg rfl (zB rfl aT (by simp;omega) ?_)))
  refine zk 5 rfl (WP.block (zg rfl (zo rfl (c8 (r:=.ptr id off) rfl rfl e1) (zl rfl e2 ?_))))
  refine au.bD s rfl rfl rfl (bI nj) (fun p4 h s => ?_)
  dsimp only[V.cells,List.length_cons,List.length_nil,Nat.reduceAdd] at s
  refine zS rfl (s.eS (j:=0) rfl og rfl (by simp only[iU,jd,u2];rfl)) ?_
  intro h s
  dsimp only[setA] at s
  refine zk 4 rfl (zY s 0 oh dJ rfl ?_)
  refine zd rfl (ay rfl rfl aT) ?_ ?_
  ·intro wJ
   have wJ:c.aK<0:=by simp at wJ;omega
   exact zk 30 rfl (WP.ret (hr (by rw[gC (fun q:c.Ok=>by have:=q.1;omega),kG]) _ _ rfl s.drop.drop))
  ·intro wJ
   have wJ:¬ (c.aK<0):=by simp at wJ;omega
   refine zm rfl (zY s 0 oh dJ rfl ?_)
   refine zd rfl (ay rfl rfl jg) ?_ ?_
   ·intro I2
    have I2:65536≤c.aK:=by simp at I2;omega
    exact zk 26 rfl (WP.ret (hr (by rw[gC (fun q:c.Ok=>by have:=q.2.1;omega),kG]) _ _ rfl s.drop.drop))
   ·intro I2
    have I2:¬ (65536≤c.aK):=by simp at I2;omega
    refine zk 2 rfl (zY s 0 pZ dJ rfl ?_)
    refine zd rfl (ay rfl rfl aT) ?_ ?_
    ·intro ku
     have ku:c.pos<0:=by simp at ku;omega
     exact zk 21 rfl (WP.ret (hr (by rw[gC (fun q:c.Ok=>by have:=q.2.2.1;omega),kG]) _ _ rfl s.drop.drop))
    ·intro ku
     have ku:¬ (c.pos<0):=by simp at ku;omega
     refine zk 2 rfl (zY s 0 pZ dJ rfl ?_)
     refine zd rfl (ay rfl rfl fN) ?_ ?_
     ·intro Qr
      have Qr:512<c.pos:=by simp at Qr;omega
      exact zk 16 rfl (WP.ret (hr (by rw[gC (fun q:c.Ok=>by have:=q.2.2.2.1;omega),kG]) _ _ rfl s.drop.drop))
     ·intro Qr
      have Qr:¬ (512<c.pos):=by simp at Qr;omega
      refine zk 2 rfl (zY s 0 mw bJ rfl (zo rfl (aP rfl rfl rfl (aW aJ (s.aG (k:=1) rfl (dy _ _)))) (zY s 0 pZ dJ rfl (zb rfl (by exact jI (aA (by omega) (by omega))) ?_))))
      refine zd rfl (ay rfl rfl fN) ?_ ?_
      ·intro qh
       have qh:512-c.pos<(c.b.length:Int):=by simp at qh;omega
       exact zk 7 rfl (WP.ret (hr (by rw[gC (fun q:c.Ok=>by have:=q.2.2.2.2.1;omega),kG]) _ _ rfl s.drop.drop))
      ·intro qh
       have qh:¬ (512-c.pos<(c.b.length:Int)):=by simp at qh;omega
       refine zk 6 rfl (zf rfl (uc _ _) ?_)
       have va:∀(h:H) (E:List (Nat×V)),c.Ok→Sat h (.arr 4 ch cs::c9 cs m::S)→Has E [(1,.ptr p1 0),(14,ch),(15,.int .i64 m.length),(16,.int .i64 ((i:Int)+1))]→WP ⟨Tryz.prog,told⟩ 61 (.loop gwL) E h Q:=by
        intro h E iO s hE
        rw[eE iO,Bool.true_and] at hr hx
        exact ih (i+1) h E Q (by omega) hm hb J s hE hr hx
       have B3:c.whole=false∨c.whole=true:=by cases c.whole<;>simp
       rcases B3 with hw|hw
       ·skip
        refine zh rfl (o_load rfl (by exact s.ld (k:=0) rfl kV rfl)) (hw) ?_
        refine zk 11 rfl (zv (zj rfl (WP.skip (zr rfl (zb rfl (by exact bf (aA (by omega) (by omega))) ?_)))))
        refine zm rfl (zv ?_)
        refine va _ _ ?_ ?_ ?_
        ·exact⟨by omega,by omega,by omega,by omega,by omega,fun e=>by rw[hw] at e;cases e⟩
        ·exact s.drop.drop
        ·exact⟨rfl,rfl,rfl,rfl,aa⟩
       ·skip
        refine zt rfl (o_load rfl (s.ld (k:=0) rfl kV rfl)) (hw) (zm rfl (zY s 0 pZ dJ rfl ?_))
        refine zd rfl (ay rfl rfl aD) ?_ ?_
        ·intro hp
         have hp:c.pos≠0:=by simp at hp;omega
         exact zk 13 rfl (WP.ret (hr (by rw[gC (fun q:c.Ok=>hp (q.2.2.2.2.2 hw).1),kG]) _ _ rfl s.drop.drop))
        ·intro hp
         have hp:c.pos=0:=by simp at hp;omega
         refine zm rfl (zY s 0 mw bJ rfl (zo rfl (aP rfl rfl rfl (aW aJ (s.aG (k:=1) rfl (dy _ _)))) ?_))
         refine zd rfl (ay rfl rfl aD) ?_ ?_
         ·intro I
          have I:c.b.length≠512:=by simp at I;omega
          exact zk 8 rfl (WP.ret (hr (by rw[gC (fun q:c.Ok=>I (q.2.2.2.2.2 hw).2),kG]) _ _ rfl s.drop.drop))
         ·intro I
          have I:c.b.length=512:=by simp at I;omega
          refine zk 2 rfl (zv (zj rfl (WP.skip (zr rfl (zb rfl (by exact bf (aA (by omega) (by omega))) ?_)))))
          refine zm rfl (zv ?_)
          refine va _ _ ?_ ?_ ?_
          ·exact⟨by omega,by omega,by omega,by omega,by omega,fun _=>⟨hp,I⟩⟩
          ·exact s.drop.drop
          ·exact⟨rfl,rfl,rfl,rfl,aa⟩
def Ap (m:List bZ): Prop:=m.length<4294967296∧(∀c∈m,c.b.length<4294967296)∧(∀c∈m, -4294967296≤c.pos∧c.pos≤4294967296)
theorem I3 (hT:W told){kd:Int}{ch:V}{m:List bZ}(s:Sat h (.arr 4 ch cs::c9 cs m::S))(hd:storable dt=true)(hm:Ap m):
  Call ⟨Tryz.prog,told⟩ 211 [.agg (dx kd tx pv nx dt ch)] h fun r h'=>r=.bool (dV kd m)∧Sat h' (.arr 4 ch cs::c9 cs m::S):=by
 have jx:=s.iz (j:=0) rfl
 have fo:=jc (kd:=kd) (tx:=tx) (pv:=pv) (nx:=nx) hd jx.2.1
 refine Call.of_wp (hT.free _ rfl) Tryz.func211 rfl rfl (zg rfl (au.bD s rfl rfl rfl (dB rfl fo) ?_))
 intro p1 h s
 refine zk 5 rfl (zY s 0 jh dJ rfl ?_)
 refine zd rfl (ay rfl rfl aT) ?_ ?_
 ·intro J
  have J:kd<1:=by simpa using J
  exact zk 11 rfl (WP.ret ⟨aa,_,rfl,by rw[dV,gC (by omega),kG],s.drop⟩)
 ·intro J
  have J:1≤kd:=by simpa using J
  refine zm rfl (zY s 0 jh dJ rfl ?_)
  refine zd rfl (ay rfl rfl fN) ?_ ?_
  ·intro I
   have I:9<kd:=by simpa using I
   exact zk 7 rfl (WP.ret ⟨aa,_,rfl,by rw[dV,gC (by omega),kG],s.drop⟩)
  ·intro I
   have I:kd≤9:=by simpa using I
   refine zk 7 rfl (zY s 0 ji o5 rfl (zo rfl (aP rfl rfl rfl (Mi s (j1:=1) (j2:=2) rfl rfl iF)) (zk 2 rfl (WP.block ?_))))
   have hg:dV kd m=m.all (fun c=>decide c.Ok):=by rw[dV,eE ⟨J,I⟩,Bool.true_and]
   refine N9 m.length 0 _ _ _ (by omega) hm.1 (fun c hc=>by have:=hm.2.1 c hc;omega) hm.2.2 s.drop ⟨rfl,rfl,rfl,rfl,aa⟩ (fun hf E' h' h2 s' => ?_) (fun hf E' h' s' => ?_)
   ·rw[hg]
    rw[gS] at hf
    rw[hf]
    exact⟨aa,_,nG h2,rfl,s'⟩
   ·rw[hg]
    rw[gS] at hf
    rw[hf]
    exact WP.has (F:=[]) aa (zK 4 rfl (WP.ret ⟨aa,_,rfl,rfl,s'⟩))
end
def jK (c:bZ): List Nat:=digits 9 c.aK.toNat++digits 9 c.pos.toNat++[if c.whole then 1 else 0]++(digits 9 c.b.length++c.b)
def c_ (kd:Int)(tx pv nx:Nat)(data:List Nat)(aR:List bZ): List Nat :=
 [kd.toNat]++digits 9 tx++digits 9 pv++digits 9 nx++(digits 9 data.length++data)++digits 9 aR.length++aR.flatMap jK
section
variable {told:cJ} {p:Nat} {v w:V} {m:List Nat}
theorem qi (I:W told)(s:Sat h (aZ v l::S))(hn:n<18446744073709551616)(hl:l.length≤140737488355000):
  Call ⟨Tryz.prog,told⟩ 235 [v,.int .u64 (n:Int)] h fun r h'=>Sat h' (aZ r (l++digits 9 n)::S) :=
 (GF I.VY (k:=9) s.wf (s.buf (k:=0) rfl) (by omega) (by omega) (by omega)).mono fun _ _ ⟨J,h2,h3⟩=>s.Br h2 J h3
theorem FL (hT:W told)(s:Sat h (aZ v l::X::S))(I:cN X (cP w m))(hl:l.length+m.length≤140737488355000):
  Call ⟨Tryz.prog,told⟩ 236 [v,w] h fun r h'=>Sat h' (aZ r (l++(digits 9 m.length++m))::X::S) :=
 (Xj hT.VY (k:=9) s.wf (s.buf (k:=0) rfl) (s.aG (k:=1) rfl I) (s.ZF I) (by omega) (by omega) (by omega)).mono fun _ _ ⟨J,h2,h3⟩=>by
  rw[cT] at J
  exact s.Br h2 J h3
noncomputable def bdL : Code:=cU [1,1,1,1,0,1,0,0] ((Tryz.f212.body).getD .skip)
set_option maxHeartbeats 1000000 in
theorem Qs (hT:W told){ch:V}{aR:List bZ}(iO:∀c∈aR,c.Ok)(J:Ap aR): ∀(j i:Nat) (sv:V) (l:List Nat) (h:H) (E:List (Nat×V)) (Q:Ex→List (Nat×V)→H→Prop),i+j=aR.length →
  l.length+((aR.drop i).flatMap jK).length≤140737488355000 →
  Sat h (aZ sv l::.arr 4 ch cs::c9 cs aR::S)→Has E [(1,.ptr p1 0),(3,sv),(37,ch),(38,.int .i64 aR.length),(39,.int .i64 i)] →
  (∀E' h' I,look E' 3=some I→Sat h' (aZ I (l++(aR.drop i).flatMap jK)::.arr 4 ch cs::c9 cs aR::S)→Q (.exit 2) E' h')→WP ⟨Tryz.prog,told⟩ 63 (.loop bdL) E h Q:=by
 intro j
 induction j with
 |zero =>
  intro i sv l h E Q hi hlen s hE hx
  have hm:=J.1
  refine WP.loop (WP.has hE (zg rfl (zC rfl aT (by simp;omega) ?_)))
  refine zk 3 rfl (WP.exit (hx _ _ sv rfl ?_))
  rw[lW (by omega)]
  simpa using s
 |succ j ih =>
  intro i sv l h E Q hi hlen s hE hx
  have hm:=J.1
  have hc:aR[i]?=some (aR[i]'(by omega)):=bw _
  generalize (aR[i]'(by omega))=c at hc
  have GK:=bK hc
  have acU:=iO c GK
  have hcb:=J.2.1 c GK
  have qA:aR.drop i=c::aR.drop (i+1):=by
   obtain⟨h1,rfl⟩:=List.getElem?_eq_some_iff.1 hc
   exact pJ h1
  rw[qA,pM] at hlen hx
  obtain⟨pg,ps,wh,bb⟩:=c
  obtain⟨q1,q2,q3,q4,_⟩:=acU
  dsimp only at q1 q2 q3 q4 hcb
  obtain⟨pg,rfl⟩:∃n:Nat,pg=n:=⟨pg.toNat,by omega⟩
  obtain⟨ps,rfl⟩:∃n:Nat,ps=n:=⟨ps.toNat,by omega⟩
  have Ts:jK ⟨pg,ps,wh,bb⟩=digits 9 pg++digits 9 ps++[if wh then 1 else 0]++(digits 9 bb.length++bb):=by simp[jK]
  have PE:(jK ⟨pg,ps,wh,bb⟩).length=(digits 9 pg).length+(digits 9 ps).length+1+(digits 9 bb.length).length+bb.length:=by rw[Ts];simp;omega
  rw[b7,PE] at hlen
  obtain⟨id,off,u,e1,e2,u1,u2,u3,s⟩:=DX (s.ae [1,1]) hc
  dsimp only at e2
  have s:=s.ae [3,0,0,0]
  dsimp only[aE,bringA,getA] at s
  refine WP.loop (WP.has hE (zg rfl (zB rfl aT (by simp;omega) ?_)))
  refine zk 5 rfl (WP.block (zg rfl (zo rfl (c8 (r:=.ptr id off) rfl rfl e1) (zl rfl e2 ?_))))
  refine au.bD s rfl rfl rfl (bI nj) (fun p7 h s => ?_)
  dsimp only[V.cells,List.length_cons,List.length_nil,Nat.reduceAdd] at s
  refine zS rfl (s.eS (j:=0) rfl og rfl (by simp only[iU,jd,u2];rfl)) ?_
  intro h s
  dsimp only[setA] at s
  refine zk 2 rfl ?_
  have s:=s.ae [1,0]
  dsimp only[bringA,getA,aE] at s
  have s0:=s
  refine WP.drawn [af,af,af,af,af,some (0,2),some (0,2),some (0,2),none,none] rfl (by kernel_rfl) (by kernel_rfl) ?_
  refine zM rfl (zF rfl (oh _ _) (zL rfl (s.ld (k:=1) rfl dJ rfl) (az.op rfl rfl rfl (by simp only[isEff,bR]) (bT rfl (by exact gL br bR (eP (by omega) (by omega)))) ?_)))
  refine az.any rfl rfl rfl rfl (OpR.call rfl rfl rfl rfl (qi hT s (by omega) (by omega))) ?_
  intro v1 h s
  have s1:=s
  refine zF rfl (pZ _ _) (zL rfl (s.ld (k:=1) rfl dJ rfl) (az.op rfl rfl rfl (by simp only[isEff,bR]) (bT rfl (by exact gL br bR (eP (by omega) (by omega)))) ?_))
  refine az.any rfl rfl rfl rfl (OpR.call rfl rfl rfl rfl (qi hT s (by omega) (by simp;omega))) ?_
  intro v2 h s
  refine zA rfl ?_
  refine az.nil ⟨⟨aa,aa,aa,aa,aa,fun _ _=>.inr ⟨rfl,⟨_,jH rfl (pZ _ _)⟩,aS _ rfl⟩,dZ (.inr ⟨rfl,⟨_,o_load rfl (s0.ld (k:=1) rfl dJ rfl)⟩,aS _ rfl⟩) (.inr ⟨rfl,⟨_,o_load rfl (s1.ld (k:=1) rfl dJ rfl)⟩,aS _ rfl⟩),fun _ _=>.inr ⟨rfl,⟨_,bT rfl (by exact gL br bR (eP (by omega) (by omega)))⟩,aS _ rfl⟩,aa,aa,aa⟩,?_⟩
  have uL:∀(h:H) (E:List (Nat×V)) (I:V),Sat h (aZ I (l++jK ⟨pg,ps,wh,bb⟩)::.arr 4 ch cs::c9 cs aR::S)→Has E [(1,.ptr p1 0),(3,I),(37,ch),(38,.int .i64 aR.length),(39,.int .i64 ((i:Int)+1))]→WP ⟨Tryz.prog,told⟩ 63 (.loop bdL) E h Q:=by
   intro h E I s hE
   refine ih (i+1) I _ h E Q (by omega) (by rw[b7,PE];omega) s hE (fun E' h' sv2 yN s'=>hx E' h' sv2 yN ?_)
   rw[cT] at s'
   exact s'
  have hlp:=gV 9 pg
  have hlq:=gV 9 ps
  refine zK 7 rfl (zf rfl (uc _ _) ?_)
  have B3:wh=false∨wh=true:=by cases wh<;>simp
  rcases B3 with hw|hw
  ·skip
   refine zh rfl (o_load rfl (s.ld (k:=1) rfl kV rfl)) (hw) (zk 3 rfl ?_)
   have s0:=s
   have qy:=cX (s.buf (k:=0) rfl).view
   refine WP.drawn [some (0,2),af,af,af,some (0,3),some (0,3),none,none] rfl (by kernel_rfl) (by kernel_rfl) ?_
   refine zM rfl (zM rfl (az.any rfl rfl rfl rfl (OpR.HR (n:=0) rfl s rfl rfl rfl (by decide)) ?_))
   intro v3 h s
   have s:=s.ae [1,1,0]
   dsimp only[bringA,getA,aE] at s
   have s1:=s
   refine az.any rfl rfl rfl rfl (OpR.rJ rfl (s.ae [0,1]) (aN _ _) rfl rfl rfl rfl (by simp;omega)) ?_
   intro v4 h s
   have s:=s.del 1
   dsimp only[aE,bringA] at s
   have s2:=s
   refine zF rfl (mw _ _) (zL rfl (s.ld (k:=1) rfl bJ rfl) (az.any rfl rfl rfl rfl (OpR.call rfl rfl rfl rfl (FL hT (s.ae [0,1]) (dy _ _) (by simp;omega))) ?_))
   intro v5 h s
   dsimp only[aE,bringA] at s
   refine zA rfl ?_
   refine az.nil ⟨⟨fun _ _=>.inr ⟨rfl,⟨_,bn rfl⟩,qy⟩,aa,aa,aa,fun _ _=>.inr ⟨rfl,⟨_,jH rfl (mw _ _)⟩,aS _ rfl⟩,sA (.inr ⟨rfl,⟨_,o_load rfl (s0.ld (k:=1) rfl bJ rfl)⟩,u3⟩) (.inr ⟨rfl,⟨_,o_load rfl (s1.ld (k:=1) rfl bJ rfl)⟩,u3⟩) (.inr ⟨rfl,⟨_,o_load rfl (s2.ld (k:=1) rfl bJ rfl)⟩,u3⟩),aa,aa,aa⟩,?_⟩
   refine zr rfl (zb rfl (by exact bf (aA (by omega) (by omega))) ?_)
   refine zm rfl (zv ?_)
   refine uL _ _ v5 ?_ ?_
   ·rw[Ts,hw]
    have s:=(s.del 1).del 1
    dsimp only[aE] at s
    simpa[cT] using s
   ·exact⟨rfl,rfl,rfl,rfl,rfl,aa⟩
  ·skip
   refine zt rfl (o_load rfl (s.ld (k:=1) rfl kV rfl)) (hw) (zk 5 rfl ?_)
   have s0:=s
   have qy:=cX (s.buf (k:=0) rfl).view
   refine WP.drawn [some (0,2),af,af,af,some (0,3),some (0,3),none,none] rfl (by kernel_rfl) (by kernel_rfl) ?_
   refine zM rfl (zM rfl (az.any rfl rfl rfl rfl (OpR.HR (n:=1) rfl s rfl rfl rfl (by decide)) ?_))
   intro v3 h s
   have s:=s.ae [1,1,0]
   dsimp only[bringA,getA,aE] at s
   have s1:=s
   refine az.any rfl rfl rfl rfl (OpR.rJ rfl (s.ae [0,1]) (aN _ _) rfl rfl rfl rfl (by simp;omega)) ?_
   intro v4 h s
   have s:=s.del 1
   dsimp only[aE,bringA] at s
   have s2:=s
   refine zF rfl (mw _ _) (zL rfl (s.ld (k:=1) rfl bJ rfl) (az.any rfl rfl rfl rfl (OpR.call rfl rfl rfl rfl (FL hT (s.ae [0,1]) (dy _ _) (by simp;omega))) ?_))
   intro v5 h s
   dsimp only[aE,bringA] at s
   refine zA rfl ?_
   refine az.nil ⟨⟨fun _ _=>.inr ⟨rfl,⟨_,bn rfl⟩,qy⟩,aa,aa,aa,fun _ _=>.inr ⟨rfl,⟨_,jH rfl (mw _ _)⟩,aS _ rfl⟩,sA (.inr ⟨rfl,⟨_,o_load rfl (s0.ld (k:=1) rfl bJ rfl)⟩,u3⟩) (.inr ⟨rfl,⟨_,o_load rfl (s1.ld (k:=1) rfl bJ rfl)⟩,u3⟩) (.inr ⟨rfl,⟨_,o_load rfl (s2.ld (k:=1) rfl bJ rfl)⟩,u3⟩),aa,aa,aa⟩,?_⟩
   refine zr rfl (zb rfl (by exact bf (aA (by omega) (by omega))) ?_)
   refine zm rfl (zv ?_)
   refine uL _ _ v5 ?_ ?_
   ·rw[Ts,hw]
    have s:=(s.del 1).del 1
    dsimp only[aE] at s
    simpa[cT] using s
   ·exact⟨rfl,rfl,rfl,rfl,rfl,aa⟩
theorem Tt (J:W told){kd:Nat}{ch:V}{aR:List bZ}(s:Sat h (X::.arr 4 ch cs::c9 cs aR::S))(hX:cN X (cP dt data))(hg:dV kd aR=true)(I:Ap aR)
 (qR:tx<18446744073709551616)(qS:pv<18446744073709551616)(qB:nx<18446744073709551616)(hlen:data.length+(aR.flatMap jK).length≤70368744177664):
  Call ⟨Tryz.prog,told⟩ 212 [.agg (dx kd tx pv nx dt ch)] h fun r h'=>Sat h' (aZ r (c_ kd tx pv nx data aR)::X::.arr 4 ch cs::c9 cs aR::S):=by
 have jx:=s.iz (j:=1) rfl
 have iP:=s.aG (k:=0) rfl hX
 have Gv:=cX iP
 have fo:=jc (kd:=kd) (tx:=tx) (pv:=pv) (nx:=nx) iP.cells.2 jx.2.1
 have hk:1≤kd∧kd≤9:=by simp[dV] at hg;omega
 have iO:∀c∈aR,c.Ok:=by
  simp only[dV,bH,tK,ie] at hg
  exact hg.2
 have hm:=I.1
 have h1:=gV 9 tx
 have h2:=gV 9 pv
 have h3:=gV 9 nx
 have h4:=gV 9 data.length
 have h5:=gV 9 aR.length
 refine Call.of_wp (J.free _ rfl) Tryz.func212 rfl rfl (zg rfl (au.bD s rfl rfl rfl (dB rfl fo) ?_))
 intro p1 h s
 dsimp only[V.cells] at s
 refine zk 4 rfl (zY s 0 jh dJ rfl (zo rfl (bT rfl (by exact gL br Tryz.underlying5 (uC (by omega) (by omega)))) ?_))
 refine au.any rfl rfl rfl (OpR.HR (n:=kd) rfl s rfl rfl rfl (by omega)) ?_
 intro v3 h s
 refine zk 5 rfl (zY s 1 kH dL rfl (zY s 1 Fw dL rfl (zY s 1 LZ dL rfl (zo rfl (cj rfl (by rw[abq];rfl)) ?_))))
 refine zk 2 rfl (WP.block (WP.loop (zg rfl (zB rfl aT (by decide) ?_))))
 refine zk 5 rfl (WP.block (zg rfl (zo rfl (xP rfl rfl (r:=.int .u64 (tx:Int)) (by simp only[indexV,IQ,kD,oZ,dL];rfl)) ?_)))
 refine zk 5 rfl (zc rfl (qi J s (by omega) (by simp only[b7,bz,cG];omega)) ?_)
 intro v3 h s
 refine za rfl (zv (zr rfl (zb rfl (by exact bf (aA (by omega) (by omega))) ?_)))
 refine zm rfl (zv (WP.loop (zg rfl (zt rfl (ay rfl rfl aT) (by decide) ?_))))
 refine zk 5 rfl (WP.block (zg rfl (zo rfl (xP rfl rfl (r:=.int .u64 (pv:Int)) (by simp only[indexV,IQ,kD,oZ,dL];rfl)) ?_)))
 refine zk 5 rfl (zc rfl (qi J s (by omega) (by simp only[b7,bz,cG];omega)) ?_)
 intro v3 h s
 refine za rfl (zv (zr rfl (zb rfl (by exact bf (aA (by omega) (by omega))) ?_)))
 refine zm rfl (zv (WP.loop (zg rfl (zt rfl (ay rfl rfl aT) (by decide) ?_))))
 refine zk 5 rfl (WP.block (zg rfl (zo rfl (xP rfl rfl (r:=.int .u64 (nx:Int)) (by simp only[indexV,IQ,kD,oZ,dL];rfl)) ?_)))
 refine zk 5 rfl (zc rfl (qi J s (by omega) (by simp only[b7,bz,cG];omega)) ?_)
 intro v3 h s
 refine za rfl (zv (zr rfl (zb rfl (by exact bf (aA (by omega) (by omega))) ?_)))
 refine zm rfl (zv (WP.loop (zg rfl (zh rfl (ay rfl rfl aT) (by decide) ?_))))
 refine zk 3 rfl (WP.exit (zw ?_))
 have s0:=s
 have wH:=cX (s.buf (k:=0) rfl).view
 refine WP.drawn [af,af,af,af,some (0,2),some (0,2),some (0,2),some (0,2),none,none] rfl (by kernel_rfl) (by kernel_rfl) ?_
 refine zM rfl (zF rfl (tW _ _) (zL rfl (s.ld (k:=1) rfl bJ rfl) (az.any rfl rfl rfl rfl (OpR.call rfl rfl rfl rfl (FL J (s.ae [0,1]) hX (by simp only[b7,bz,cG];omega))) ?_)))
 intro v4 h s
 have s:=s.ae [0,1,0]
 have s1:=s
 refine zF rfl (ji _ _) (zL rfl (s.ld (k:=1) rfl o5 rfl) (zO rfl (aP rfl rfl rfl (s.xg (j1:=3) (j2:=4) rfl rfl iF)) (az.op rfl rfl rfl (by simp only[isEff,bR]) (bT rfl (by exact gL br bR (eP (by omega) (by omega)))) ?_)))
 refine az.any rfl rfl rfl rfl (OpR.call rfl rfl rfl rfl (qi J s (by omega) (by simp only[b7,bz,cG];omega))) ?_
 intro v5 h s
 refine zA rfl ?_
 refine az.nil ⟨⟨aa,aa,aa,aa,fun _ _=>.inr ⟨rfl,⟨_,jH rfl (ji _ _)⟩,aS _ rfl⟩,dZ (.inr ⟨rfl,⟨_,o_load rfl (s0.ld (k:=1) rfl o5 rfl)⟩,jx.2.2⟩) (.inr ⟨rfl,⟨_,o_load rfl (s1.ld (k:=1) rfl o5 rfl)⟩,jx.2.2⟩),dZ (.inr ⟨rfl,⟨_,aP rfl rfl rfl (s0.xg (j1:=3) (j2:=4) rfl rfl iF)⟩,aS _ rfl⟩) (.inr ⟨rfl,⟨_,aP rfl rfl rfl (s1.xg (j1:=3) (j2:=4) rfl rfl iF)⟩,aS _ rfl⟩),fun _ _=>.inr ⟨rfl,⟨_,bT rfl (by exact gL br bR (eP (by omega) (by omega)))⟩,aS _ rfl⟩,aa,aa,aa⟩,?_⟩
 refine zK 3 rfl (zY s 1 ji o5 rfl (zo rfl (aP rfl rfl rfl (s.xg (j1:=3) (j2:=4) rfl rfl iF)) (zk 2 rfl (WP.block ?_))))
 have s:=s.ae [0,2,2,1]
 refine Qs J iO I aR.length 0 v5 _ _ _ _ (by omega) (by rw[gS];simp only[b7,bz,cG];omega) s ⟨rfl,rfl,rfl,rfl,rfl,aa⟩ (fun E' h' ZQ fE s' => ?_)
 refine WP.has (F:=[(3,ZQ)]) ⟨fE,aa⟩ (zK 5 rfl (WP.ret ⟨aa,_,rfl,?_⟩))
 have s'':=(s'.ae [0,2,0,0]).del 4
 dsimp only[List.cons_append,List.nil_append,List.drop,aE,bringA,getA] at s''
 simpa[c_,cT] using s''
end
def iA (aF:Nat)(b:List Nat): List Nat:=le 4 b.length++le 4 (tC aF b)++b
theorem mJ (aF:Nat)(b:List Nat): (iA aF b).length=8+b.length:=by simp[iA,cO];omega
theorem I4 : ∃i,Tryz.prog.info? 3=some i∧i.size=1∧i.bytes=8 :=
 ⟨_,(show Tryz.prog.info? 3=some ((Tryz.prog.info? 3).getD default) by kernel_rfl),by kernel_rfl,by kernel_rfl⟩
section
variable {told:cJ} {p:Nat} {v w:V} {m:List Nat}
theorem GL (I:W told)(s:Sat h S)(J:getA S k=some X)(hX:cN X (cP v l))(hl:l.length≤4611686018427387904):
  Call ⟨Tryz.prog,told⟩ 190 [.int .u64 (n:Int),v] h fun r h'=>r=.int .u32 (tC n l:Nat)∧Sat h' S :=
 (Qh I.VY s.wf (s.aG J hX) hl).mono fun _ _ ⟨h1,h2⟩=>⟨h1,s.lD h2⟩
structure DY (tx pv nx:Nat)(data:List Nat)(aR:List bZ): Prop where
 fit:Ap aR
 tx:tx<18446744073709551616
 pv:pv<18446744073709551616
 nx:nx<18446744073709551616
 len:data.length+(aR.flatMap jK).length≤70368744177664
theorem GM (J:W told){kd:Int}{ch:V}{aR:List bZ}(s:Sat h (X::.arr 4 ch cs::c9 cs aR::S))(hX:cN X (cP dt data))(I:DY tx pv nx data aR):
  Call ⟨Tryz.prog,told⟩ 163 [.agg (dx kd tx pv nx dt ch),.int .u64 (aF:Int)] h fun r h' =>
  (dV kd aR=false∧r=.aQ [.aY,.int .i64 1]∧Sat h' (X::.arr 4 ch cs::c9 cs aR::S)) ∨
  (dV kd aR=true∧1048576<(c_ kd tx pv nx data aR).length∧r=.aQ [.aY,.int .i64 2]∧Sat h' (X::.arr 4 ch cs::c9 cs aR::S)) ∨
  (dV kd aR=true∧(c_ kd tx pv nx data aR).length≤1048576∧∃u,r=.aQ [u,.int .i64 0]∧Sat h' (aZ u (iA aF (c_ kd tx pv nx data aR))::X::.arr 4 ch cs::c9 cs aR::S)):=by
 have jx:=s.iz (j:=1) rfl
 have iP:=s.aG (k:=0) rfl hX
 have fo:=jc (kd:=kd) (tx:=tx) (pv:=pv) (nx:=nx) iP.cells.2 jx.2.1
 refine Call.of_wp (J.free _ rfl) Tryz.func163 rfl rfl (zg rfl (au.bD s rfl rfl rfl (dB rfl fo) ?_))
 intro p1 h s
 dsimp only[V.cells] at s
 refine zk 6 rfl (zl rfl (s.cV (k:=0) rfl iJ dD) (zc rfl (I3 J (s.ae [2,2]) iP.cells.2 I.fit) ?_))
 rintro r h' ⟨rfl,s⟩
 cases hg:dV kd aR with
 |false =>
  exact zo rfl (eU rfl rfl) (zk 7 rfl (WP.ret ⟨aa,_,rfl,.inl ⟨rfl,rfl,(s.ae [3,0,0]).del 3⟩⟩))
 |true =>
  refine zo rfl (eU rfl rfl) (zk 5 rfl (zl rfl (s.cV (k:=2) rfl iJ dD) ?_))
  have hk:∃n:Nat,kd=n:=⟨kd.toNat,by simp[dV] at hg;omega⟩
  obtain⟨kd,rfl⟩:=hk
  refine zc rfl (Tt J (s.ae [3,0,0]) hX hg I.fit I.tx I.pv I.nx I.len) ?_
  intro u h s
  dsimp only[bringA,getA,aE] at s
  have w_:(c_ kd tx pv nx data aR).length<9223372036854775808:=by
   have h1:=gV 9 tx
   have h2:=gV 9 pv
   have h3:=gV 9 nx
   have h4:=gV 9 data.length
   have h5:=gV 9 aR.length
   have h6:=I.len
   simp only[c_,b7,bz,cG]
   omega
  generalize Ge:c_ kd tx pv nx data aR=bd at s w_ ⊢
  refine zk 6 rfl (zo rfl (aP rfl rfl rfl (aW aJ (s.aG (k:=0) rfl (aN _ _)))) ?_)
  by_cases N_:1048576<bd.length
  ·skip
   refine zB rfl fN (by simp;omega) ?_
   exact zk 7 rfl (WP.ret ⟨aa,_,rfl,.inr (.inl ⟨rfl,N_,rfl,(s.del 4).del 0⟩)⟩)
  ·skip
   refine zC rfl fN (by simp;omega) ?_
   refine zk 6 rfl (zo rfl (aP rfl rfl rfl (aW aJ (s.aG (k:=0) rfl (aN _ _)))) (zb rfl (by exact bf (aA (by omega) (by omega))) ?_))
   refine au.any rfl rfl rfl (OpR.uF (c:=8+bd.length) rfl s rfl rfl rfl rfl (by omega)) ?_
   intro v h s
   refine zm rfl (zo rfl (aP rfl rfl rfl (aW aJ (s.aG (k:=1) rfl (aN _ _)))) (zo rfl (bT rfl (by exact gL br bR (eP (by omega) (by omega)))) ?_))
   refine zc rfl (xb (z:=4) J s (by decide) (by simp)) ?_
   intro v h s
   have cH:=(s.buf (k:=1) rfl).1
   refine zk 7 rfl (zc rfl (GL (n:=aF) J s (k:=1) rfl (aN _ _) (by omega)) ?_)
   rintro r h ⟨rfl,s⟩
   have kx:=IU (aF:=aF) cH
   refine zo rfl (bT rfl (by exact gL Tryz.underlying285 bR (eP (by omega) (by omega)))) ?_
   refine zc rfl (xb (z:=4) J s (by decide) (by simp[cO])) ?_
   intro v h s
   refine zk 6 rfl (au.any rfl rfl rfl (OpR.rJ rfl s (aN _ _) rfl rfl rfl rfl (by simp only[b7,cO,cG];omega)) ?_)
   intro v h s
   refine zk 3 rfl (WP.ret ⟨aa,_,rfl,?_⟩)
   refine .inr (.inr ⟨rfl,by omega,v,rfl,?_⟩)
   have s:=(s.del 5).del 1
   dsimp only[aE] at s
   simpa[iA,cT] using s
def Lg.app (μ:Lg)(b:List Nat): Lg:={ μ with b:=μ.b++b,cE:=μ.cE++[μ.b.length] }
set_option maxHeartbeats 1000000 in
theorem Oa (hT:W told){kd:Int}{ch:V}{aR:List bZ}(s:Sat h (bS q p μ::aO p δ::X::.arr 4 ch cs::c9 cs aR::S))(hX:cN X (cP dt data))(fG:DY tx pv nx data aR)
 (J:μ.Ok)(hf:δ.aU<4294967296)(hl:δ.log.length≤16777216)(hr:δ.room≤16777216):
  Call ⟨Tryz.prog,told⟩ 104 [.ptr q 0,.agg (dx kd tx pv nx dt ch)] h fun r h' =>
  (∃e:Int,r=.aQ [.int .u64 0,.int .i64 e]∧((dV kd aR=false∧e=1)∨(dV kd aR=true∧1048576<(c_ kd tx pv nx data aR).length∧e=2)∨(dV kd aR=true∧(c_ kd tx pv nx data aR).length≤1048576∧δ.dead=true∧e=9) ∨
    (dV kd aR=true∧(c_ kd tx pv nx data aR).length≤1048576∧δ.dead=false∧δ.room<δ.log.length+(iA (μ.base+μ.b.length) (c_ kd tx pv nx data aR)).length∧e=7))∧Sat h' (bS q p μ::aO p δ::X::.arr 4 ch cs::c9 cs aR::S)) ∨
  (dV kd aR=true∧(c_ kd tx pv nx data aR).length≤1048576∧δ.dead=false∧δ.log.length+(iA (μ.base+μ.b.length) (c_ kd tx pv nx data aR)).length≤δ.room∧δ.aU=0∧r=.aQ [.int .u64 0,.int .i64 9] ∧
   Sat h' (bS q p μ::aO p { δ.die with tail:=iA (μ.base+μ.b.length) (c_ kd tx pv nx data aR) }::X::.arr 4 ch cs::c9 cs aR::S)) ∨
  (dV kd aR=true∧(c_ kd tx pv nx data aR).length≤1048576∧δ.dead=false∧δ.log.length+(iA (μ.base+μ.b.length) (c_ kd tx pv nx data aR)).length≤δ.room∧δ.aU≠0∧r=.aQ [.int .u64 ((μ.base+μ.b.length:Nat):Int),.int .i64 0] ∧
   Sat h' (bS q p (μ.app (iA (μ.base+μ.b.length) (c_ kd tx pv nx data aR)))::aO p { δ.dh with log:=δ.log++iA (μ.base+μ.b.length) (c_ kd tx pv nx data aR) }::X::.arr 4 ch cs::c9 cs aR::S)):=by
 have jx:=s.iz (j:=3) rfl
 have iP:=s.aG (k:=2) rfl hX
 have fo:=jc (kd:=kd) (tx:=tx) (pv:=pv) (nx:=nx) iP.cells.2 jx.2.1
 have N8:=J.size
 refine Call.of_wp (hT.free _ rfl) Tryz.func104 rfl rfl (zg rfl (au.bD s rfl rfl rfl (dB rfl fo) ?_))
 intro p1 h s
 dsimp only[V.cells] at s
 have s:=s.ae [1,0]
 refine zk 6 rfl (zc rfl (ue hT s J.size) ?_)
 rintro v h' ⟨rfl,rfl⟩
 refine zk 4 rfl (zl rfl (s.cV (k:=1) rfl iJ dD) (zm rfl (zc rfl (GM (aF:=μ.base+μ.b.length) hT (s.ae [3,3,3]) hX fG) ?_)))
 generalize I5:iA (μ.base+μ.b.length) (c_ kd tx pv nx data aR)=rc
 have DZ:rc.length=8+(c_ kd tx pv nx data aR).length:=by rw[←I5,mJ]
 rintro r h' (⟨hg,rfl,s⟩|⟨hg,N_,rfl,s⟩|⟨hg,D1,u,rfl,s⟩)
 ·dsimp only[bringA,getA,aE] at s
  exact zk 10 rfl (zB rfl aD (rfl) (zk 8 rfl (WP.ret ⟨aa,_,rfl,.inl ⟨1,rfl,.inl ⟨hg,rfl⟩,(s.ae [3,4,0,0,0]).del 5⟩⟩)))
 ·dsimp only[bringA,getA,aE] at s
  exact zk 10 rfl (zB rfl aD (rfl) (zk 8 rfl (WP.ret ⟨aa,_,rfl,.inl ⟨2,rfl,.inr (.inl ⟨hg,N_,rfl⟩),(s.ae [3,4,0,0,0]).del 5⟩⟩)))
 ·dsimp only[bringA,getA,aE] at s
  have cH:=(s.buf (k:=0) rfl).1
  obtain⟨kz,_,cap,_,rfl,_⟩:=s.fU (by omega)
  obtain⟨bv,sv,s⟩:=fW.1 (s.ae [4])
  refine zk 10 rfl (zC rfl aD (rfl) (zk 8 rfl (zY s 0 L1 qv rfl (zm rfl ?_))))
  have s:=s.ae [8,3]
  refine zc rfl (NZ hT s (aN _ _) (by omega) hf (by omega) (by omega)) ?_
  rintro r h (⟨hd,rfl,s⟩|⟨hd,aeg,rfl,s⟩|⟨hd,I,h0,rfl,s⟩|⟨hd,I,h0,rfl,s⟩)
  ·refine au.op rfl rfl rfl (fq rfl) ?_
   exact zk 4 rfl (zB rfl aD (rfl) (zk 8 rfl (WP.ret ⟨aa,_,rfl,.inl ⟨9,rfl,.inr (.inr (.inl ⟨hg,D1,hd,rfl⟩)),(fW.2 ⟨bv,sv,((s.ae [2,2,2,0,1,1,1]).del 8).del 7⟩)⟩⟩)))
  ·skip
   exact zk 5 rfl (zB rfl aD (rfl) (zk 8 rfl (WP.ret ⟨aa,_,rfl,.inl ⟨7,rfl,.inr (.inr (.inr ⟨hg,D1,hd,by omega,rfl⟩)),(fW.2 ⟨bv,sv,((s.ae [2,2,2,0,1,1,1]).del 8).del 7⟩)⟩⟩)))
  ·skip
   exact zk 5 rfl (zB rfl aD (rfl) (zk 8 rfl (WP.ret ⟨aa,_,rfl,.inr (.inl ⟨hg,D1,hd,I,h0,rfl,(fW.2 ⟨bv,sv,((s.ae [2,2,2,0,1,1,1]).del 8).del 7⟩)⟩)⟩)))
  ·skip
   have s:=s.ae [2,2,2,1,0,0,0,0]
   refine zk 5 rfl (zC rfl aD (rfl) (zk 4 rfl ?_))
   have s0:=s
   have VW:=cX (s.buf (k:=1) rfl).view
   have uM:=(s.iz (j:=2) rfl).2.2
   refine WP.drawn [some (0,3),some (0,2),some (0,2),some (0,2),some (0,2),af,af,af,af,af,af,af,af,af,af] rfl (by kernel_rfl) (by kernel_rfl) ?_
   refine zM rfl (zM rfl (zN rfl (zF rfl (od _ _) (zL rfl (s.ld (k:=0) rfl vm rfl) (zM rfl (zN rfl (zF rfl (e_ _ _) (zL rfl (s.ld (k:=0) rfl bJ rfl) (zO rfl (aP rfl rfl rfl (aW aJ (s.aG (k:=1) rfl (aN _ _)))) ?_)))))))))
   obtain⟨i1,kA,jE,qg⟩:=I4
   obtain⟨iv,h1,e1,s1⟩:=kI (P:=Tryz.prog) (k:=1) (x:=.int .i64 (μ.b.length:Int)) s gW P7 lR rfl (by decide) (by decide) rfl rfl
   dsimp only[V.cells] at s1
   refine az.any rfl rfl rfl rfl (OpR.of (R:=fun v h'=>v=iv∧h'=h1) (oF rfl e1) ⟨rfl,rfl⟩) ?_
   rintro v h' ⟨rfl,rfl⟩
   have DW:=J.many
   obtain⟨ZQ,h2,e2,s2⟩:=gU (s1.ae [3,0]) gW kA P7 jE (by omega) rfl (by decide) (by simp only[vr,bz,cG];omega)
   refine az.any rfl rfl rfl rfl (OpR.of (R:=fun v h'=>v=ZQ∧h'=h2) (mI rfl rfl e2) ⟨rfl,rfl⟩) ?_
   rintro v h' ⟨rfl,rfl⟩
   have hv:=s2.iz (j:=0) rfl
   refine zN rfl (zF rfl (od _ _) (az.gh rfl rfl rfl (OpR.fM rfl rfl rfl (s2.dK (k:=2) rfl VF rfl (by decide) hv.1 hv.2.1)) ?_))
   rintro v h ⟨rfl,s⟩
   refine az.nil ⟨⟨fun _ _=>.inr ⟨rfl,⟨_,bn rfl⟩,aS _ rfl⟩,fun _ _=>.inr ⟨rfl,⟨_,bn rfl⟩,aS _ rfl⟩,fun _ _=>.inr ⟨rfl,⟨_,kT rfl⟩,aS _ rfl⟩,fun _ _=>.inr ⟨rfl,⟨_,jH rfl (od _ _)⟩,aS _ rfl⟩,dZ (.inr ⟨rfl,⟨_,o_load rfl (s0.ld (k:=0) rfl vm rfl)⟩,uM⟩) (.inr ⟨rfl,⟨_,o_load rfl (s1.ld (k:=1) rfl vm rfl)⟩,uM⟩),aa,aa,aa,aa,aa,aa,aa,aa,aa,aa,aa⟩,?_⟩
   refine zK 5 rfl (zY s 2 e_ bJ rfl (zm rfl (au.any rfl rfl rfl (OpR.rJ rfl (s.ae [3,3]) (aN _ _) rfl rfl rfl rfl (by have:=J.len;omega)) ?_)))
   intro bv' h s
   have hv:=(s.buf (k:=0) rfl).view.cells
   refine zn rfl (zf rfl (e_ _ _) (zS rfl (s.dK (k:=4) rfl gY rfl (by decide) hv.1 hv.2) ?_))
   intro h s
   refine zk 7 rfl (WP.ret ⟨aa,_,rfl,?_⟩)
   refine .inr (.inr ⟨hg,D1,hd,I,h0,rfl,fW.2 ⟨bv',v,?_⟩⟩)
   have s:=(((s.ae [4,0,1]).del 4).del 3).del 7
   have e:jW (μ.app rc).cE=jW μ.cE++[.int .i64 (μ.b.length:Int)]:=by simp[Lg.app,jW]
   rw[e]
   exact s
end
def Dk.cF (δ:Dk): Int×Dk:=if δ.dead=true then(9,δ) else if δ.aU=0 then(9,δ.die) else(0,{ δ.dh with bu:=δ.log.length })
def Dk.bL (δ:Dk)(n:Int)(b:List Nat): Int×Dk:=if δ.dead=true then(9,δ) else if ¬(0≤n∧n<δ.aq.length∧b.length=512) then(1,δ) else
 if δ.aU=0 then(9,{ δ.die with eV:=some (n.toNat,b) }) else(0,δ.wr n b)
def Dk.rL (δ:Dk)(b:List Nat): Int×Dk:=if δ.dead=true then(9,δ) else if δ.room<δ.log.length+b.length then(7,δ) else if δ.aU=0 then(9,{ δ.die with tail:=b }) else(0,{ δ.dh with log:=δ.log++b })
def Dk.rY (δ:Dk)(n:Int): Int:=if δ.dead=true then 9 else if ¬(0≤n∧n<δ.aq.length) then 1 else 0
structure Dk.Ok (δ:Dk): Prop where
 aU:δ.aU<4294967296
 len:δ.log.length≤16777216
 room:δ.room≤16777216
 now:∀e∈δ.now,e.2.length=512
 aq:∀(i:Nat) (b:List Nat),δ.aq[i]?=some (some b)→b.length=512
 bu:δ.bu≤δ.log.length
 many:δ.aq.length≤65536
theorem Dk.Ok.dh (h:δ.Ok): δ.dh.Ok:=⟨by have:=h.aU;simp only[Dk.dh];split<;>omega,h.len,h.room,h.now,h.aq,h.bu,h.many⟩
theorem Dk.Ok.die (h:δ.Ok): δ.die.Ok:=⟨h.aU,h.len,h.room,h.now,h.aq,h.bu,h.many⟩
theorem Dk.Ok.cF (h:δ.Ok): δ.cF.2.Ok:=by
 unfold Dk.cF
 split
 ·exact h
 ·split
  ·exact h.die
  ·exact⟨h.dh.aU,h.len,h.room,h.now,h.aq,aV _,h.many⟩
theorem hG {n:Int}{x:α}: ∀ {l:List (Int×α)},lookL n l=some x→(n,x)∈l:=by
 intro l
 induction l<;>grind[lookL]
theorem Dk.Ok.at (I:δ.Ok)(n:Int): (δ.at n).length=512:=by
 unfold Dk.at
 cases J:lookL n δ.now with
 |some b=>exact I.now _ (hG J)
 |none =>
  cases h2:δ.aq[n.toNat]? with
  |none=>grind
  |some o =>
   cases o with
   |none=>grind
   |some b=>exact I.aq _ _ h2
section
variable {told:cJ} {p:Nat} {v:V}
theorem Xt (I:W told)(s:Sat h (aO p δ::S))(J:δ.aU<4294967296): Call ⟨Tryz.prog,told⟩ 128 [.ptr p 0] h fun v h'=>v=.int .i64 δ.cF.1∧Sat h' (aO p δ.cF.2::S):=by
 refine(GH I s J).mono fun v h' hr => ?_
 grind[Dk.cF]
theorem Mj (I:W told){n:Int}(s:Sat h (aO p δ::X::S))(J:cN X (cP x b))(hb:b.length<1073741824)(hf:δ.aU<4294967296)(hw:δ.waiting.length≤268435456):
  Call ⟨Tryz.prog,told⟩ 133 [.ptr p 0,.int .i64 n,x] h fun v h'=>v=.int .i64 (δ.bL n b).1∧Sat h' (aO p (δ.bL n b).2::X::S):=by
 refine(Qj I s J hb hf hw).mono fun v h' hr => ?_
 grind[Dk.bL]
theorem Qt (J:W told){n:Int}(s:Sat h (aO p δ::S))(I:δ.Ok): Call ⟨Tryz.prog,told⟩ 167 [.ptr p 0,.int .i64 n] h fun v h' =>
  (δ.rY n≠0∧v=.aQ [.aY,.int .i64 (δ.rY n)]∧Sat h' (aO p δ::S))∨(δ.rY n=0∧∃u,v=.aQ [u,.int .i64 0]∧Sat h' (aZ u (δ.at n)::aO p δ::S)):=by
 refine(Tm J s (I.at n)).mono fun v h' hr => ?_
 grind[Dk.rY]
end
abbrev LD := Lg×Dk
def bx (x:LD)(n:Nat): Int×LD:=if n<x.1.base+x.1.forced then(0,x) else if x.2.cF.1≠0 then(x.2.cF.1,(x.1,x.2.cF.2)) else(0,({ x.1 with forced:=x.1.b.length },x.2.cF.2))
def fO (μ:Lg)(kd:Int)(tx pv nx:Nat)(data:List Nat)(aR:List bZ): List Nat:=iA (μ.base+μ.b.length) (c_ kd tx pv nx data aR)
def bp (x:LD)(kd:Int)(tx pv nx:Nat)(data:List Nat)(aR:List bZ): (Nat×Int)×LD :=
 if dV kd aR=false then((0,1),x) else if 1048576<(c_ kd tx pv nx data aR).length then((0,2),x) else
 if (x.2.rL (fO x.1 kd tx pv nx data aR)).1≠0 then((0,(x.2.rL (fO x.1 kd tx pv nx data aR)).1),(x.1,(x.2.rL (fO x.1 kd tx pv nx data aR)).2)) else
 ((x.1.base+x.1.b.length,0),(x.1.app (fO x.1 kd tx pv nx data aR),(x.2.rL (fO x.1 kd tx pv nx data aR)).2))
theorem KW : δ.cF.2.waiting=δ.waiting:=by
 unfold Dk.cF
 split
 ·rfl
 ·split<;>rfl
theorem uN {x:LD}: (bx x n).2.2.waiting=x.2.waiting:=by
 grind[bx,KW]
theorem Dk.Ok.bL {n:Int}(h:δ.Ok): (δ.bL n b).2.Ok:=by
 unfold Dk.bL
 split
 ·exact h
 ·split
  ·exact h
  ·split
   ·exact⟨h.aU,h.len,h.room,h.now,h.aq,h.bu,h.many⟩
   ·refine⟨h.dh.aU,h.len,h.room,fun e he => ?_,h.aq,h.bu,h.many⟩
    have:∀l:List (Int×List Nat),(∀e∈l,e.2.length=512)→∀e∈b8 n b l,e.2.length=512:=by
     intro l
     induction l<;>grind[b8]
    exact this δ.now h.now e he
theorem qC {x:LD}(h:x.2.Ok): (bx x n).2.2.Ok:=by
 unfold bx
 split
 ·exact h
 ·split
  ·exact h.cF
  ·exact h.cF
theorem Lg.Ok.Xu (h:μ.Ok): ({ μ with forced:=μ.b.length }:Lg).Ok:=⟨h.size,h.many,h.low,h.FJ,aV _,h.len,h.check⟩
theorem Cj {x:LD}(h:x.1.Ok): (bx x n).2.1.Ok:=by
 unfold bx
 split
 ·exact h
 ·split
  ·exact h
  ·exact h.Xu
section
variable {told:cJ} {p:Nat} {v:V}
theorem Mk (J:W told)(s:Sat h (bS q p μ::aO p δ::S))(I:μ.Ok)(hf:δ.aU<4294967296): Call ⟨Tryz.prog,told⟩ 93 [.ptr q 0,.int .u64 (n:Int)] h fun v h' =>
  v=.int .i64 (bx (μ,δ) n).1∧Sat h' (bS q p (bx (μ,δ) n).2.1::aO p (bx (μ,δ) n).2.2::S):=by
 refine(Qq J s I hf).mono fun v h' hr => ?_
 grind[bx,Dk.cF]
theorem Tu (hT:W told){kd:Int}{ch:V}{aR:List bZ}(s:Sat h (bS q p μ::aO p δ::X::.arr 4 ch cs::c9 cs aR::S))(hX:cN X (cP dt data))(J:DY tx pv nx data aR)(qO:μ.Ok)(I:δ.Ok):
  Call ⟨Tryz.prog,told⟩ 104 [.ptr q 0,.agg (dx kd tx pv nx dt ch)] h fun r h' =>
  r=.aQ [.int .u64 ((bp (μ,δ) kd tx pv nx data aR).1.1:Nat),.int .i64 (bp (μ,δ) kd tx pv nx data aR).1.2] ∧
  Sat h' (bS q p (bp (μ,δ) kd tx pv nx data aR).2.1::aO p (bp (μ,δ) kd tx pv nx data aR).2.2::X::.arr 4 ch cs::c9 cs aR::S):=by
 refine(Oa hT s hX J qO I.aU I.len I.room).mono fun v h' hr => ?_
 grind[bp,Dk.rL,fO]
end
structure Fm where
 aK:Int
 b:List Nat
 pins:Int
 fX:Bool
 changed:Bool
variable {f:Fm}
structure Pl where
 ai:List Fm
 bQ:List (Int×Int)
 bO:List (Int×(Nat×Bool))
 hand:Nat
variable {π:Pl}
def gF (f:Fm)(v:V): List V:=[.int .i64 f.aK,v,.int .i64 f.pins,.bool f.fX,.bool f.changed]
def uO : List V→List Fm→aI
 |[],[]=>.pu True
 |a::v::c::d::e::l,x::m=>.an (.an (.pu (a=.int .i64 x.aK∧c=.int .i64 x.pins∧d=.bool x.fX∧e=.bool x.changed)) (.cD v x.b)) (uO l m)
 |_,_=>.pu False
theorem bg.fm : ∀(m:List Fm) (l:List V),bg (uO l m):=by
 intro m
 induction m with
 |nil=>intro l;rcases l with _|⟨a,_|⟨b,_|⟨c,_|⟨d,_|⟨e,l⟩⟩⟩⟩⟩<;>exact bg.pu _
 |cons x m I=>intro l;rcases l with _|⟨a,_|⟨b,_|⟨c,_|⟨d,_|⟨e,l⟩⟩⟩⟩⟩<;>first|exact bg.pu _|exact bg.an (bg.an (bg.pu _) (bg.cD _ _)) (I l)
theorem Aq {a b:PM}: ∀ {m:List Fm} {l:List V} {i:Nat} {f:Fm},(uO l m).p a b→m[i]?=some f→∃pre v post,l=pre++(gF f v++post)∧pre.length=i*5∧(aI.cD v f.b).p a b ∧
  (∀(f':Fm) (v':V) (I J:PM),(aI.cD v' f'.b).p I J→PM.le a I→PM.le b J→(uO (pre++(gF f' v'++post)) (m.set i f')).p I J):=by
 intro m
 induction m with
 |nil=>intro l i f h hc;simp at hc
 |cons x m ih =>
  intro l i f h hc
  rcases l with _|⟨p,_|⟨q,_|⟨w,_|⟨d,_|⟨e,l⟩⟩⟩⟩⟩<;>first|exact h.elim|skip
  obtain⟨⟨⟨h1,h2,h3,h4⟩,h5⟩,h6⟩:=h
  cases i with
  |zero =>
   simp at hc
   subst hc
   refine⟨[],q,l,?_,rfl,h5,fun f' v' I J hv ha hb=>⟨⟨⟨rfl,rfl,rfl,rfl⟩,hv⟩,(uO l m).mono _ _ _ _ ha hb h6⟩⟩
   rw[h1,h2,h3,h4];rfl
  |succ i =>
   simp at hc
   obtain⟨pre,v,post,e1,e2,e3,e4⟩:=ih h6 hc
   refine⟨p::q::w::d::e::pre,v,post,?_,?_,e3,fun f' v' I J hv ha hb=>⟨⟨⟨h1,h2,h3,h4⟩,aI.mono _ _ _ _ _ ha hb h5⟩,e4 f' v' I J hv ha hb⟩⟩
   ·rw[e1];rfl
   ·simp only[bz,e2];omega
theorem Xv {a b:PM}: ∀ {m:List Fm} {l:List V},(uO l m).p a b→l.length=m.length*5:=by
 intro m
 induction m with
 |nil=>intro l h;rcases l with _|⟨a,_|⟨b,_|⟨c,_|⟨d,_|⟨e,l⟩⟩⟩⟩⟩<;>first|rfl|exact h.elim
 |cons x m I =>
  intro l h
  rcases l with _|⟨a,_|⟨b,_|⟨c,_|⟨d,_|⟨e,l⟩⟩⟩⟩⟩<;>first|exact h.elim|skip
  have:=I h.2
  simp only[bz]
  omega
def fc (cZ:Nat)(m:List Fm): aI:=xs fun cs:List V=>star [pt cZ (.cells (m.length*5) cs false),uO cs m]
abbrev I6 (v:V)(m:List (Int×Int)): aI:=ng (fun v x=>.pu (v=.int .i64 x)) v m
abbrev Ml (v:V)(m:List (Int×(Nat×Bool))): aI:=ng (fun v x=>.pu (v=.agg [.int .u64 (x.1:Int),.bool x.2])) v m
def qD (p q cZ n:Nat)(wh di:V)(hand:Nat): List V:=[.ptr p 0,.ptr q 0,.sl cZ 0 n (.exact n),wh,di,.int .i64 (hand:Int)]
def eo (r p q:Nat)(π:Pl): aI:=xs fun cZ:Nat=>xs fun wh:V=>xs fun di:V =>
 star [pt r (.cells 6 (qD p q cZ π.ai.length wh di π.hand) false),fc cZ π.ai,I6 wh π.bQ,Ml di π.bO]
section
variable {p:Nat} {v:V} {m:List Fm}
theorem fY : Sat h (eo r p q π::S)↔∃cZ wh di,Sat h (pt r (.cells 6 (qD p q cZ π.ai.length wh di π.hand) false)::fc cZ π.ai::I6 wh π.bQ::Ml di π.bO::S):=by
 simp only[eo,gK,aM,iS,dU]
theorem j3 : Sat h (fc cZ m::S)↔∃cs,Sat h (pt cZ (.cells (m.length*5) cs false)::uO cs m::S):=by
 simp only[fc,gK,aM,iS,dU]
theorem jr (s:Sat h (fc cZ m::S))(hf:m[i]?=some f): ∃pre v post,pre.length=i*5∧(pre++(gF f v++post)).length=m.length*5 ∧
  Sat h (pt cZ (.cells (m.length*5) (pre++(gF f v++post)) false)::uO (pre++(gF f v++post)) m::.cD v f.b::S):=by
 obtain⟨cs,s⟩:=j3.1 s
 obtain⟨a,b,q1,q2,q3⟩:=s.at (k:=1) rfl
 obtain⟨pre,v,post,e1,e2,e3,_⟩:=Aq q3 hf
 have hl:=Xv q3
 subst e1
 refine⟨pre,v,post,e2,hl,?_⟩
 have s1:Sat h (uO (pre++(gF f v++post)) m::pt cZ (.cells (m.length*5) (pre++(gF f v++post)) false)::S):=s.ae [1]
 have s2:=(s1.dup (bg.fm _ _)).iu (B:=.cD v f.b) fun a' b' h'=>by
  obtain⟨acV,v',I,J,sD,e3',_⟩:=Aq h' hf
  have:=E7 J (by omega)
  obtain⟨_,h5⟩:=this
  have h6:=iW (fun l=>l[1]?) h5
  simp[gF] at h6
  subst h6
  exact e3'
 exact s2.ae [2,1,0]
theorem gN {f':Fm}{v':V}{pre:List V}(s:Sat h (pt cZ (.cells n (pre++(gF f' v'++post)) false)::uO (pre++(gF f v++post)) m::.cD v' f'.b::S))(hn:n=m.length*5)(hf:m[i]?=some f)(hp:pre.length=i*5): Sat h (fc cZ (m.set i f')::S):=by
 subst hn
 have s1:Sat h (uO (pre++(gF f v++post)) m::.cD v' f'.b::pt cZ (.cells (m.length*5) (pre++(gF f' v'++post)) false)::S):=s.ae [1,1,0]
 have s2:=s1.two (C:=uO (pre++(gF f' v'++post)) (m.set i f')) (bg.fm _ _) (bg.cD _ _) fun a b h1 h2=>by
  obtain⟨acV,v0,I,J,sD,e3',e4'⟩:=Aq h1 hf
  obtain⟨h3,h4⟩:=E7 J (by omega)
  subst h3
  have h5:post=I:=by
   have:=E7 h4 (by simp[gF])
   exact this.2
  subst h5
  exact e4' f' v' a b h2 (PM.le_refl _) (PM.le_refl _)
 refine j3.2 ⟨pre++(gF f' v'++post),?_⟩
 rw[dg]
 exact s2.ae [1]
theorem i_ {pre row:List V}(hp:pre.length=a)(I:nth row j=some x): nth (pre++(row++post)) (a+j)=some x:=by
 rw[gH] at I ⊢
 have J:=(List.getElem?_eq_some_iff.1 I).1
 rw[vY (by omega),show a+j-pre.length=j by omega,vZ J,I]
theorem Xw {pre row:List V}(J:pre.length=a)(I:j<row.length): (pre++(row++post)).set (a+j) x=pre++(row.set j x++post):=by
 rw[List.set_append_right _ _ (by omega),show a+j-pre.length=j by omega,List.set_append_left _ _ I]
theorem Sat.stM {pre row:List V}(s:Sat h S)(hk:getA S k=some (pt id (.cells n (pre++(row++post)) false)))(hs:bB P t=some 1)(hp:pre.length=a)(J:(pre++(row++post)).length=n)(hj:j<row.length)(hv:x.cells=[x])(I:storable x=true):
  ∃h₁,f_ P h t (.ptr id (a+j)) x=some h₁∧Sat h₁ (setA S k (pt id (.cells n (pre++(row.set j x++post)) false))):=by
 have:=s.dK (P:=P) (t:=t) (off:=a+j) (v:=x) hk hs J (by rw[←J];simp;omega) hv I
 rwa [Xw hp hj] at this
theorem Sat.I7 {pre row row':List V}(s:Sat h S)(hk:getA S k=some (pt id (.cells n (pre++(row++post)) false)))(hs:bB P t=some row'.length)(hp:pre.length=a)(J:(pre++(row++post)).length=n)(hr:row'.length=row.length)(I:row'.all storable=true):
  ∃h₁,f_ P h t (.ptr id a) (.agg row')=some h₁∧Sat h₁ (setA S k (pt id (.cells n (pre++(row'++post)) false))):=by
 have:=s.stN (P:=P) (t:=t) (off:=a) (l:=row') hk hs J (by rw[←J];simp;omega) I
 have e:(pre++(row++post)).take a++(row'++(pre++(row++post)).drop (a+row'.length))=pre++(row'++post):=by
  rw[mZ hp,A_,lW (by omega),dU,show a+row'.length-pre.length=row.length by omega,wu rfl]
 rwa [e] at this
theorem ldF {pre row:List V}(s:Sat h S)(J:getA S k=some (pt id (.cells n (pre++(row++post)) false)))(ht:isAggT P t=some true)(hs:bB P t=some row.length)(hp:pre.length=a)(I:(pre++(row++post)).length=n): loadV P h t (.ptr id a)=some (.agg row):=by
 rw[VU ht hs (s.row J) I (by rw[←I];simp;omega),wu hp,mZ rfl]
end
abbrev bA := Pl×LD
variable {ε:bA}
def j9 (π:Pl)(n:Int): Nat:=match lookL n π.bO with
 |some x=>x.1
 |none=>0
def outF (ε:bA)(i:Nat): Int×bA:=match ε.1.ai[i]? with
 |none=>(0,ε)
 |some f=>if f.aK<0∨f.changed=false then(0,ε) else if cf f.b=false then(4,ε) else
  if (bx ε.2 (dF f.b 4 8)).1≠0 then((bx ε.2 (dF f.b 4 8)).1,(ε.1,(bx ε.2 (dF f.b 4 8)).2)) else
  if ((bx ε.2 (dF f.b 4 8)).2.2.bL f.aK f.b).1≠0 then(((bx ε.2 (dF f.b 4 8)).2.2.bL f.aK f.b).1,(ε.1,((bx ε.2 (dF f.b 4 8)).2.1,((bx ε.2 (dF f.b 4 8)).2.2.bL f.aK f.b).2))) else
  (0,({ ε.1 with ai:=ε.1.ai.set i { f with changed:=false },bO:=b8 f.aK (j9 ε.1 f.aK,false) ε.1.bO },((bx ε.2 (dF f.b 4 8)).2.1,((bx ε.2 (dF f.b 4 8)).2.2.bL f.aK f.b).2)))
section
variable {told:cJ} {p:Nat} {v:V}
set_option maxHeartbeats 1000000 in
theorem ZR (hT:W told)(s:Sat h (pt r (.cells 6 (qD p q cZ π.ai.length wh di π.hand) false)::fc cZ π.ai::I6 wh π.bQ::Ml di π.bO::bS q p μ::aO p δ::S))(hi:π.ai[i]?=some f)(qO:μ.Ok)(oU:δ.Ok)(Vn:f.b.length<1073741824)(hw:δ.waiting.length≤268435456):
  Call ⟨Tryz.prog,told⟩ 166 [.ptr r 0,.ptr cZ (i*5)] h fun v h'=>v=.int .i64 (outF (π,μ,δ) i).1 ∧
   Sat h' (pt r (.cells 6 (qD p q cZ (outF (π,μ,δ) i).2.1.ai.length wh di (outF (π,μ,δ) i).2.1.hand) false)::fc cZ (outF (π,μ,δ) i).2.1.ai::I6 wh (outF (π,μ,δ) i).2.1.bQ::Ml di (outF (π,μ,δ) i).2.1.bO::bS q p (outF (π,μ,δ) i).2.2.1::aO p (outF (π,μ,δ) i).2.2.2::S):=by
 have s00:=s
 obtain⟨pre,fv,post,I,hlen,s⟩:=jr (s.ae [1]) hi
 have hfv:=(s.aG (k:=2) rfl (dy _ _))
 refine Call.of_wp (hT.free _ rfl) Tryz.func166 rfl rfl (zK 9 rfl (zf rfl (pX _ _) (zl rfl (s.ld (k:=0) rfl dJ (i_ I rfl)) ?_)))
 refine zd rfl (ay rfl rfl aT) ?_ ?_
 ·intro hq
  have hq:f.aK<0:=by simpa using hq
  have he:outF (π,μ,δ) i=(0,(π,μ,δ)):=by simp only[outF,hi];rw[aC (.inl hq)]
  rw[he]
  exact zk 13 rfl (WP.ret ⟨aa,_,rfl,rfl,s00⟩)
 ·intro hq
  have hq:¬ f.aK<0:=by simpa using hq
  refine zk 3 rfl (zf rfl (FG _ _) (zl rfl (s.ld (k:=0) rfl kV (i_ I rfl)) ?_))
  have Qa:f.changed=false∨f.changed=true:=by cases f.changed<;>simp
  rcases Qa with hc|hc
  ·have he:outF (π,μ,δ) i=(0,(π,μ,δ)):=by simp only[outF,hi];rw[aC (.inr hc)]
   rw[he]
   refine zt rfl (eU rfl rfl) (by rw[hc];rfl) ?_
   exact zk 7 rfl (WP.ret ⟨aa,_,rfl,rfl,s00⟩)
  ·have he:outF (π,μ,δ) i=(if cf f.b=false then(4,(π,μ,δ)) else
    if (bx (μ,δ) (dF f.b 4 8)).1≠0 then((bx (μ,δ) (dF f.b 4 8)).1,(π,(bx (μ,δ) (dF f.b 4 8)).2)) else
    if ((bx (μ,δ) (dF f.b 4 8)).2.2.bL f.aK f.b).1≠0 then(((bx (μ,δ) (dF f.b 4 8)).2.2.bL f.aK f.b).1,(π,((bx (μ,δ) (dF f.b 4 8)).2.1,((bx (μ,δ) (dF f.b 4 8)).2.2.bL f.aK f.b).2))) else
    (0,({ π with ai:=π.ai.set i { f with changed:=false },bO:=b8 f.aK (j9 π f.aK,false) π.bO },((bx (μ,δ) (dF f.b 4 8)).2.1,((bx (μ,δ) (dF f.b 4 8)).2.2.bL f.aK f.b).2)))):=by
    simp only[outF,hi];rw[ak (by rw[hc];simp;omega)]
   rw[he]
   refine zh rfl (eU rfl rfl) (by rw[hc];rfl) ?_
   refine zk 8 rfl (zf rfl (BE _ _) (zl rfl (s.ld (k:=0) rfl bJ (i_ I rfl)) (zc rfl (Mf hT (s.ae [2]) (dy _ _) (by omega)) ?_)))
   rintro w h ⟨s,(⟨hg,rfl⟩|⟨hg,rfl⟩)⟩
   ·dsimp only[bringA,getA,aE] at s
    rw[ak (by rw[hg];decide)]
    have Tv:(bx (μ,δ) (dF f.b 4 8)).2.2.Ok:=qC oU
    have ZS:(bx (μ,δ) (dF f.b 4 8)).2.2.waiting.length≤268435456:=by rw[uN];exact hw
    have J:=Mk (n:=dF f.b 4 8) hT (s.ae [6,6]) qO oU.aU
    generalize bx (μ,δ) (dF f.b 4 8)=x at J Tv ZS ⊢
    obtain⟨xe,xl,xd⟩:=x
    dsimp only at J Tv ZS ⊢
    refine zk 16 rfl (zC rfl aD (rfl) (zk 8 rfl (zY s 3 Xe qw rfl (zm rfl (zc rfl (J) ?_)))))
    rintro w h ⟨rfl,s⟩
    refine zk 5 rfl ?_
    by_cases hx:xe=0
    ·subst hx
     rw[ak (by decide)]
     refine zC rfl aD (rfl) ?_
     have vn:=fun(s:Sat h (aO p xd::.cD fv f.b::bS q p xl::pt cZ (.cells (π.ai.length*5) (pre++(gF f fv++post)) false)::uO (pre++(gF f fv++post)) π.ai::pt r (.cells 6 (qD p q cZ π.ai.length wh di π.hand) false)::I6 wh π.bQ::Ml di π.bO::S))=>Mj (n:=f.aK) hT s (dy fv f.b) Vn Tv.aU ZS
     generalize xd.bL f.aK f.b=y at vn ⊢
     obtain⟨ye,yd⟩:=y
     dsimp only at vn ⊢
     have s:=s.ae [1,1,0]
     refine zk 5 rfl (WP.drawn [af,af,af,af,af,af,af,af,af,af,af,af,af,af] rfl (by kernel_rfl) (by kernel_rfl) ?_)
     refine zM rfl (zN rfl (zF rfl (BB _ _) (zL rfl (s.ld (k:=5) rfl qv rfl) (zM rfl (zN rfl (zF rfl (pX _ _) (zL rfl (s.ld (k:=3) rfl dJ (i_ I rfl)) (zM rfl (zN rfl (zF rfl (BE _ _) (zL rfl (s.ld (k:=3) rfl bJ (i_ I rfl)) (az.any rfl rfl rfl rfl (OpR.call rfl rfl rfl rfl (vn s)) ?_))))))))))))
     rintro w h ⟨rfl,s⟩
     refine zA rfl ?_
     refine az.nil ⟨⟨aa,aa,aa,aa,aa,aa,aa,aa,aa,aa,aa,aa,aa,aa,aa⟩,?_⟩
     refine zK 3 rfl ?_
     by_cases hy:ye=0
     ·subst hy
      rw[ak (by decide)]
      refine zC rfl aD (rfl) (zk 7 rfl (zf rfl (FG _ _) (zS rfl (s.stM (k:=3) (j:=4) rfl yR I hlen (by simp[gF]) rfl rfl) ?_)))
      intro h s
      have e5:(gF f fv).set 4 (.bool false)=gF { f with changed:=false } fv:=rfl
      rw[e5] at s
      have s:=s.ae [7,3,4]
      refine zk 2 rfl (WP.drawn [af,af,af,af,af,af,af,af,af,af,af,af,af,af,af,af,af,af,af,af] rfl (by kernel_rfl) (by kernel_rfl) ?_)
      refine zM rfl (zN rfl (zF rfl (ua _ _) (zL rfl (s.ld (k:=2) rfl BA rfl) (zM rfl (zN rfl (zF rfl (pX _ _) (zL rfl (s.ld (k:=1) rfl dJ (i_ I rfl)) (zM rfl (zN rfl (zF rfl (ua _ _) (zL rfl (s.ld (k:=2) rfl BA rfl) (zM rfl (zN rfl (zF rfl (pX _ _) (zL rfl (s.ld (k:=1) rfl dJ (i_ I rfl)) ?_)))))))))))))))
      have Ob:∃b,dX Tryz.prog h 215 di (.int .i64 f.aK) false=some (.agg [.int .u64 (j9 π f.aK:Nat),.bool b]):=by
       rcases iE (f:=fun v (x:Nat×Bool)=>.pu (v=.agg [.int .u64 (x.1:Int),.bool x.2])) (n:=f.aK) (fun _ _=>bg.pu _) s Ag br BD with⟨g1,_,g3⟩|⟨u,x,g1,_,g3,s'⟩
       ·exact⟨false,by rw[g3];simp only[j9,g1];rfl⟩
       ·obtain⟨rfl,_⟩:=ej.1 s'
        exact⟨x.2,by rw[g3];simp only[j9,g1]⟩
      obtain⟨lb,Ob⟩:=Ob
      refine zO rfl (fQ rfl rfl Ob) (zO rfl (aa5 rfl (aa7 (Xf _) rfl)) (zO rfl (cj rfl (by rw[abk];rfl)) ?_))
      refine az.gh rfl rfl rfl (OpR.mapUpdate rfl rfl rfl rfl (lH (f:=fun v (x:Nat×Bool)=>.pu (v=.agg [.int .u64 (x.1:Int),.bool x.2])) (x:=(j9 π f.aK,false)) (fun _ _=>bg.pu _) (s.fB rfl) Ag br)) ?_
      intro w h s
      refine az.nil ⟨⟨aa,aa,aa,aa,aa,aa,aa,aa,aa,aa,aa,aa,aa,aa,aa,aa,aa,aa,aa,aa,aa⟩,?_⟩
      refine zK 4 rfl (WP.ret ⟨aa,_,rfl,?_⟩)
      refine⟨rfl,?_⟩
      have s:=gN (i:=i) (f':={ f with changed:=false }) (s.ae [1,5,3]) rfl hi I
      have e6:(π.ai.set i { f with changed:=false }).length=π.ai.length:=dg
      rw[e6]
      exact s.ae [2,0,3,0,1,0]
     ·rw[aC hy]
      refine zB rfl aD (by simp;exact hy) ?_
      refine zk 7 rfl (WP.ret ⟨aa,_,rfl,?_⟩)
      refine⟨rfl,?_⟩
      have s:=j3.2 ⟨_,s.ae [3,3]⟩
      exact(s.del 2).ae [3,0,2,2,1,0]
    ·rw[aC hx]
     refine zB rfl aD (by simp;exact hx) ?_
     refine zk 7 rfl (WP.ret ⟨aa,_,rfl,?_⟩)
     refine⟨rfl,?_⟩
     have s:=j3.2 ⟨_,s.ae [3,3]⟩
     exact(s.del 3).ae [3,0,2,2,0,0]
   ·dsimp only[bringA,getA,aE] at s
    rw[aC hg]
    refine zk 16 rfl (zB rfl aD (rfl) (zk 7 rfl (WP.ret ⟨aa,_,rfl,?_⟩)))
    refine⟨rfl,?_⟩
    have s:=j3.2 ⟨_,s.ae [1,1]⟩
    exact(s.del 1).ae [1,0]
end
structure gv (π cn:Pl): Prop where
 bQ:cn.bQ=π.bQ
 bO:cn.bO=π.bO
 len:cn.ai.length=π.ai.length
 get:∀(i:Nat) (f:Fm),π.ai[i]?=some f→∃t,cn.ai[i]?=some { f with fX:=t }
theorem gv.refl (π:Pl): gv π π:=⟨rfl,rfl,rfl,fun _ f h=>⟨f.fX,h⟩⟩
theorem gv.trans {cn I:Pl}(a:gv π cn)(b:gv cn I): gv π I:=by
 refine⟨b.bQ.trans a.bQ,b.bO.trans a.bO,b.len.trans a.len,fun i f h => ?_⟩
 obtain⟨t,ht⟩:=a.get i f h
 obtain⟨t',J⟩:=b.get i _ ht
 exact⟨t',J⟩
theorem gv.hand : gv π { π with hand:=n }:=⟨rfl,rfl,rfl,fun _ f h=>⟨f.fX,h⟩⟩
theorem gv.Xx (hi:π.ai[i]?=some f): gv π { π with ai:=π.ai.set i { f with fX:=false } }:=by
 refine⟨rfl,rfl,dg,fun j g I => ?_⟩
 by_cases h:i=j
 ·subst h
  rw[hi] at I
  have:=cg I
  subst this
  have J:=(List.getElem?_eq_some_iff.1 hi).1
  exact⟨false,by simp[tJ,J]⟩
 ·exact⟨g.fX,by simp only[tJ,ak h];exact I⟩
theorem I8 {x:Operand}{b:Nat}(I:0<b): binV P h .rem t x y (.int .i64 (a:Int)) (.int .i64 (b:Int))=some (.int .i64 ((a%b:Nat):Int)):=by
 simp only[binV,ikBeq,ah,intV]
 have:intBeq (b:Int) 0=false:=by rw[kW];simp;omega
 rw[this,aX,Int.tmod_eq_emod_of_nonneg (by omega)]
 rfl
section
variable {told:cJ} {p:Nat} {v:V} {m:List Fm}
theorem nJ (hi:i<n): indexAddrV Tryz.prog 214 (.sl cZ 0 n (.exact n)) (.int .i64 (i:Int))=some (.ptr cZ (i*5)):=by
 rw[abi,show(decide ((0:Int)≤(i:Int))&&decide ((i:Int)<(n:Int)))=true by simp;omega,ah]
 simp
theorem KX (I:W told)(s:Sat h S)(J:storable v=true): Call ⟨Tryz.prog,told⟩ 214 [.agg (gF f v)] h fun w h'=>w=.bool (decide (f.pins=0))∧Sat h' S:=by
 refine Call.of_wp (I.free _ rfl) Tryz.func214 rfl rfl (zg rfl (au.bD s rfl rfl rfl (dB rfl (by simp only[V.cells,gF,iU,jd,J];rfl)) ?_))
 intro p1 h s
 dsimp only[V.cells,gF] at s
 exact zk 4 rfl (zY s 0 rG dJ rfl (zb rfl dm (zk 2 rfl (WP.ret ⟨aa,_,rfl,rfl,s.drop⟩))))
theorem Tw (hT:W told)(s:Sat h (fc cZ m::S))(h0:m[0]?=some f)(hp:f.pins=0): Call ⟨Tryz.prog,told⟩ 237 [.sl cZ 0 m.length (.exact m.length),.fn (.func 214) [] []] h fun w h'=>w=.int .i64 0∧Sat h' (fc cZ m::S):=by
 have hl:=(List.getElem?_eq_some_iff.1 h0).1
 obtain⟨pre,fv,post,I,hlen,s⟩:=jr s h0
 have J:=(s.aG (k:=2) rfl (dy _ _)).cells.2
 refine Call.of_wp (hT.free _ rfl) Tryz.func237 rfl rfl (zK 8 rfl (zo rfl (aP rfl rfl rfl (p_ rfl Aj)) (zk 2 rfl (WP.block (WP.loop (zg rfl (zB rfl aT (by simp;omega) ?_)))))))
 refine zk 5 rfl (WP.block (zK 10 rfl (zo rfl (c8 rfl rfl (nJ (i:=0) hl)) (zl rfl (ldF s (k:=0) rfl abl DO I hlen) (zc rfl (KX hT s J) ?_)))))
 rintro w h ⟨rfl,s⟩
 rw[eE hp]
 exact zk 7 rfl (WP.ret ⟨aa,_,rfl,rfl,(j3.2 ⟨_,s⟩).del 1⟩)
theorem KY (I:W told)(s:Sat h (fc cZ m::S))(J:m[0]?=some f)(hp:f.pins=0): Call ⟨Tryz.prog,told⟩ 213 [.sl cZ 0 m.length (.exact m.length),.fn (.func 214) [] []] h fun w h'=>w=.bool true∧Sat h' (fc cZ m::S):=by
 refine Call.of_wp (I.free _ rfl) Tryz.func213 rfl rfl (zK 8 rfl (zc rfl (Tw I s J hp) ?_))
 rintro w h ⟨rfl,s⟩
 refine zB rfl jg (by decide) ?_
 exact zk 2 rfl (WP.ret ⟨aa,_,rfl,rfl,s⟩)
noncomputable def fdA : Code:=cU [1,0,0,1,0,0] ((Tryz.f165.body).getD .skip)
noncomputable def ZT : Code:=cU [1,0,1,1,1,0,0] ((Tryz.f165.body).getD .skip)
theorem KZ {hand:Nat}: ∀(j i:Nat) (h:H) (E:List (Nat×V)) (Q:Ex→List (Nat×V)→H→Prop),i+j=m.length→m.length<4294967296 →
  Sat h (pt r (.cells 6 (qD p q cZ m.length wh di hand) false)::fc cZ m::S)→Has E [(0,.ptr r 0),(10,.int .i64 m.length),(11,.int .i64 i)] →
  (∀E' (i:Nat) (f:Fm),m[i]?=some f→f.aK<0→look E' 2=some (.int .i64 (i:Int))→Q .ret E' h) →
  (∀E',Has E' [(0,.ptr r 0)]→Q (.exit 0) E' h)→WP ⟨Tryz.prog,told⟩ 70 (.loop fdA) E h Q:=by
 intro j
 induction j with
 |zero =>
  intro i h E Q hi hm s hE hr hx
  refine WP.loop (WP.has hE (zg rfl (zC rfl aT (by simp;omega) ?_)))
  exact zk 3 rfl (WP.exit (hx _ ⟨rfl,aa⟩))
 |succ j ih =>
  intro i h E Q hi hm s hE hr hx
  have hc:m[i]?=some (m[i]'(by omega)):=bw _
  generalize (m[i]'(by omega))=f at hc
  obtain⟨pre,fv,post,I,hlen,s'⟩:=jr (s.ae [1]) hc
  refine WP.loop (WP.has hE (zg rfl (zB rfl aT (by simp;omega) ?_)))
  refine zk 5 rfl (WP.block (zK 9 rfl (zY s 0 mu qx rfl (zm rfl (zo rfl (c8 rfl rfl (nJ (i:=i) (by omega))) ?_)))))
  refine zf rfl (pX _ _) (zl rfl (s'.ld (k:=0) rfl dJ (i_ I rfl)) ?_)
  refine zd rfl (ay rfl rfl aT) ?_ ?_
  ·intro J
   have J:f.aK<0:=by simpa using J
   exact zk 7 rfl (WP.ret (hr _ i f hc J rfl))
  ·intro J
   refine zv (zj rfl (WP.skip (zr rfl (zb rfl (by exact bf (aA (by omega) (by omega))) ?_))))
   refine zm rfl (zv ?_)
   exact ih (i+1) h _ Q (by omega) hm s ⟨rfl,rfl,rfl,aa⟩ hr hx
def rM (m:List Fm): Nat:=(m.filter fun f=>f.fX).length
theorem Ck : ∀ {m:List Fm} {i:Nat},m[i]?=some f→f.fX=true→rM (m.set i { f with fX:=false })+1=rM m:=by
 intro m
 induction m with
 |nil=>intro i h;simp at h
 |cons g m J =>
  intro i h I
  cases i with
  |zero=>simp at h;subst h;simp[rM,I]
  |succ i =>
   rw[nV] at h
   have:=J h I
   simp only[rM,List.set_cons_succ,List.filter_cons] at this ⊢
   split<;>(try simp only[bz])<;>omega
theorem D2 (hf:π.ai[π.hand]?=some f)(hm:π.ai.length<4294967296)(hp:f.pins=0)
 (s:Sat h (pt r (.cells 6 (qD p q cZ π.ai.length wh di π.hand) false)::fc cZ π.ai::S))(hE:Has E [(0,.ptr r 0)])
 (hr:f.fX=false→∀E' h',look E' 2=some (.int .i64 (π.hand:Int))→Sat h' (pt r (.cells 6 (qD p q cZ π.ai.length wh di ((π.hand+1)%π.ai.length)) false)::fc cZ π.ai::S)→Q .ret E' h')
 (hx:f.fX=true→∀E' h',Has E' [(0,.ptr r 0)]→Sat h' (pt r (.cells 6 (qD p q cZ (π.ai.set π.hand { f with fX:=false }).length wh di ((π.hand+1)%π.ai.length)) false)::fc cZ (π.ai.set π.hand { f with fX:=false })::S)→WP ⟨Tryz.prog,told⟩ 70 (.loop ZT) E' h' Q):
  WP ⟨Tryz.prog,told⟩ 70 (.loop ZT) E h Q:=by
 have hl:=(List.getElem?_eq_some_iff.1 hf).1
 refine WP.loop (WP.has hE (WP.block (zK 4 rfl (zY s 0 FD dJ rfl (zk 6 rfl (zY s 0 mu qx rfl (zm rfl (zo rfl (c8 rfl rfl (nJ (i:=π.hand) hl)) (zk 3 rfl (WP.drawn [af,af,af,af,af,af,af,af,af,af,af,af,af,af,af] rfl (by kernel_rfl) (by kernel_rfl) ?_))))))))))
 refine zM rfl (zM rfl (zN rfl (zF rfl (FD _ _) (zL rfl (s.ld (k:=0) rfl dJ rfl) (zO rfl (ay rfl rfl (by exact bf (aA (by omega) (by omega)))) ?_)))))
 refine zM rfl (zN rfl (zF rfl (mu _ _) (zL rfl (s.ld (k:=0) rfl qx rfl) (zO rfl (aP rfl rfl rfl (p_ rfl Aj)) (zO rfl (ay rfl rfl (I8 (a:=π.hand+1) (by omega))) ?_)))))
 refine zN rfl (zF rfl (FD _ _) (az.gh rfl rfl rfl (OpR.fM rfl rfl rfl (s.dK (k:=0) rfl lR rfl (by decide) rfl rfl)) ?_))
 rintro v h ⟨rfl,s⟩
 have s:Sat h (pt r (.cells 6 (qD p q cZ π.ai.length wh di ((π.hand+1)%π.ai.length)) false)::fc cZ π.ai::S):=s
 refine az.nil ⟨⟨aa,aa,aa,aa,aa,aa,aa,aa,aa,aa,aa,aa,aa,aa,aa,aa⟩,?_⟩
 obtain⟨pre,fv,post,I,hlen,s⟩:=jr (s.ae [1]) hf
 refine zw (WP.block (zK 4 rfl (zf rfl (rG _ _) (zl rfl (s.ld (k:=0) rfl dJ (i_ I rfl)) (zC rfl fN (by rw[hp];decide) ?_)))))
 refine zk 7 rfl (zf rfl (FF _ _) (zl rfl (s.ld (k:=0) rfl kV (i_ I rfl)) (zk 2 rfl ?_)))
 have Mm:f.fX=false∨f.fX=true:=by cases f.fX<;>simp
 rcases Mm with J|J
 ·refine WP.VA rfl (J) ?_
  refine zK 5 rfl (WP.ret (hr J _ _ rfl ?_))
  have s:=j3.2 ⟨_,s.ae [0,0]⟩
  exact(s.del 1).ae [1,0]
 ·skip
  refine WP.NL rfl (J) (zK 3 rfl (zf rfl (FF _ _) (zS rfl (s.stM (k:=0) (j:=3) rfl yR I hlen (by simp[gF]) rfl rfl) ?_)))
  intro h s
  have e5:(gF f fv).set 3 (.bool false)=gF { f with fX:=false } fv:=rfl
  rw[e5] at s
  refine zv (WP.exit (hx J _ _ ⟨rfl,aa⟩ ?_))
  have s:=gN (i:=π.hand) (f':={ f with fX:=false }) s rfl hf I
  rw[dg]
  exact s.ae [1,0]
theorem K0 : ∀(fuel:Nat) (π:Pl) (h:H) (E:List (Nat×V)) (Q:Ex→List (Nat×V)→H→Prop),rM π.ai≤fuel→π.hand<π.ai.length→π.ai.length<4294967296→(∀f∈π.ai,f.pins=0) →
  Sat h (pt r (.cells 6 (qD p q cZ π.ai.length wh di π.hand) false)::fc cZ π.ai::S)→Has E [(0,.ptr r 0)] →
  (∀E' h' (i:Nat) (cn:Pl) (f:Fm),gv π cn→cn.ai[i]?=some f→cn.hand<cn.ai.length→look E' 2=some (.int .i64 (i:Int))→Sat h' (pt r (.cells 6 (qD p q cZ cn.ai.length wh di cn.hand) false)::fc cZ cn.ai::S)→Q .ret E' h') →
  WP ⟨Tryz.prog,told⟩ 70 (.loop ZT) E h Q:=by
 intro fuel
 induction fuel with
 |zero =>
  intro π h E Q ht J hm hp s hE hr
  have I:π.ai[π.hand]?=some (π.ai[π.hand]'J):=bw _
  generalize (π.ai[π.hand]'J)=f at I
  refine D2 I hm (hp f (bK I)) s hE (fun h1 E' h' h2 s' => ?_) (fun h1 => ?_)
  ·exact hr E' h' π.hand { π with hand:=(π.hand+1)%π.ai.length } f gv.hand I (tQ _ (by omega)) h2 s'
  ·have:=Ck I h1
   omega
 |succ fuel ih =>
  intro π h E Q ht J hm hp s hE hr
  have I:π.ai[π.hand]?=some (π.ai[π.hand]'J):=bw _
  generalize (π.ai[π.hand]'J)=f at I
  refine D2 I hm (hp f (bK I)) s hE (fun h1 E' h' h2 s' => ?_) (fun h1 E' h' fE s' => ?_)
  ·exact hr E' h' π.hand { π with hand:=(π.hand+1)%π.ai.length } f gv.hand I (tQ _ (by omega)) h2 s'
  ·have vg:=Ck I h1
   have hn:gv π { π with ai:=π.ai.set π.hand { f with fX:=false },hand:=(π.hand+1)%π.ai.length }:=(gv.Xx I).trans gv.hand
   refine ih { π with ai:=π.ai.set π.hand { f with fX:=false },hand:=(π.hand+1)%π.ai.length } h' E' Q (by show rM (π.ai.set π.hand { f with fX:=false })≤fuel;omega) ?_ (by simp only[dg];exact hm) (fun g hg => ?_) s' fE (fun E2 h2 i cn g Yy hg V3 hl s2=>hr E2 h2 i cn g (hn.trans Yy) hg V3 hl s2)
   ·simp only[dg];exact tQ _ (by omega)
   ·rcases pK hg with hg|rfl
    ·exact hp g hg
    ·exact hp f (bK I)
theorem Tx (hT:W told)(s:Sat h (pt r (.cells 6 (qD p q cZ π.ai.length wh di π.hand) false)::fc cZ π.ai::S))(hh:π.hand<π.ai.length)(hm:π.ai.length<4294967296)(hp:∀f∈π.ai,f.pins=0):
  Call ⟨Tryz.prog,told⟩ 165 [.ptr r 0] h fun v h'=>∃(i:Nat) (cn:Pl) (f:Fm),v=.int .i64 (i:Int)∧gv π cn∧cn.ai[i]?=some f∧cn.hand<cn.ai.length ∧
   Sat h' (pt r (.cells 6 (qD p q cZ cn.ai.length wh di cn.hand) false)::fc cZ cn.ai::S):=by
 have I:π.ai[0]?=some (π.ai[0]'(by omega)):=bw _
 generalize (π.ai[0]'(by omega))=f0 at I
 have s0:=s
 refine Call.of_wp (hT.free _ rfl) Tryz.func165 rfl rfl (zK 4 rfl (WP.scope (zK 5 rfl (zY s 0 mu qx rfl (zo rfl (aP rfl rfl rfl (p_ rfl Aj)) (zk 2 rfl (WP.block ?_)))))))
 refine KZ π.ai.length 0 _ _ _ (by omega) hm s ⟨rfl,rfl,rfl,aa⟩ (fun E' i f J _ h2 => ?_) (fun E' fE => ?_)
 ·exact⟨aa,_,nG h2,i,π,f,rfl,gv.refl π,J,hh,s⟩
 ·skip
  refine WP.has fE (zK 5 rfl (zY s 0 mu qx rfl (zc rfl (KY hT (s.ae [1]) I (hp f0 (bK I))) ?_)))
  rintro w h ⟨rfl,s⟩
  refine zo rfl (eU rfl rfl) (zk 4 rfl (WP.label (WP.block ?_)))
  refine K0 (rM π.ai) π _ _ _ (aV _) hh hm hp (s.ae [1,0]) ⟨rfl,aa⟩ (fun E' h' i cn f hn J V3 h2 s' => ?_)
  exact⟨aa,_,nG h2,i,cn,f,rfl,hn,J,V3,s'⟩
end
structure Pl.Ok (π:Pl): Prop where
 hand:π.hand<π.ai.length
 many:π.ai.length≤1024
 bQ:∀e∈π.bQ,0≤e.2∧e.2<π.ai.length
 len:∀f∈π.ai,f.b.length≤512
 pins:∀f∈π.ai,0≤f.pins∧f.pins≤4294967296
theorem Pl.Ok.at (h:π.Ok){n i:Int}(I:lookL n π.bQ=some i): ∃(k:Nat) (f:Fm),i=k∧π.ai[k]?=some f:=by
 have J:=h.bQ _ (hG I)
 exact⟨i.toNat,π.ai[i.toNat]'(by omega),by omega,bw _⟩
def heldI (π:Pl)(n:Int): Option Nat:=match lookL n π.bQ with
 |none=>none
 |some i=>match π.ai[i.toNat]? with
  |none=>none
  |some f=>if f.pins=0 then none else some i.toNat
def unpinF (π:Pl)(n:Int): Int×Pl:=match heldI π n with
 |none=>(18,π)
 |some i=>match π.ai[i]? with
  |none=>(18,π)
  |some f=>(0,{ π with ai:=π.ai.set i { f with pins:=f.pins-1 } })
def fS (π:Pl)(n:Int)(aF:Nat): Nat:=match lookL n π.bO with
 |some x=>x.1
 |none=>aF
def lK (π:Pl)(n:Int)(b:List Nat)(aF:Nat): Int×Pl:=match heldI π n with
 |none=>(18,π)
 |some i=>match π.ai[i]? with
  |none=>(18,π)
  |some f=>if cf b=false then(4,π) else(0,{ π with ai:=π.ai.set i { f with b:=cz b aF,changed:=true },bO:=b8 n (fS π n aF,true) π.bO })
section
variable {told:cJ} {p:Nat} {v:V} {m:List Fm}
theorem Mn {n:Int}{j:Nat}(s:Sat h (I6 wh π.bQ::S)): (lookL n π.bQ=none∧dX Tryz.prog h 213 wh (.int .i64 n) true=some (.aQ [.int .i64 0,.bool false])) ∨
  ∃i,lookL n π.bQ=some i∧dX Tryz.prog h 213 wh (.int .i64 n) true=some (.aQ [.int .i64 i,.bool true]):=by
 grind[iE,bg.pu,Tryz.underlying213,Tryz.underlying3,P7,ej]
theorem Mp {n:Int}(s:Sat h (Ml di π.bO::S)): (lookL n π.bO=none∧dX Tryz.prog h 215 di (.int .i64 n) true=some (.aQ [.agg [.int .u64 0,.bool false],.bool false])∧dX Tryz.prog h 215 di (.int .i64 n) false=some (.agg [.int .u64 0,.bool false])) ∨
  ∃x,lookL n π.bO=some x∧dX Tryz.prog h 215 di (.int .i64 n) true=some (.aQ [.agg [.int .u64 (x.1:Int),.bool x.2],.bool true])∧dX Tryz.prog h 215 di (.int .i64 n) false=some (.agg [.int .u64 (x.1:Int),.bool x.2]):=by
 grind[iE,bg.pu,Tryz.underlying215,Tryz.underlying3,BD,ej]
theorem Mq (hT:W told){n:Int}(s:Sat h (pt r (.cells 6 (qD p q cZ π.ai.length wh di π.hand) false)::fc cZ π.ai::I6 wh π.bQ::S))(J:π.Ok):
  Call ⟨Tryz.prog,told⟩ 168 [.ptr r 0,.int .i64 n] h fun v h'=>h'=h∧((heldI π n=none∧v=.aQ [.bq,.int .i64 18])∨∃(i:Nat) (f:Fm),heldI π n=some i∧π.ai[i]?=some f∧v=.aQ [.ptr cZ (i*5),.int .i64 0]):=by
 refine Call.of_wp (hT.free _ rfl) Tryz.func168 rfl rfl (zK 9 rfl (zY s 0 w6 DN rfl (zm rfl ?_)))
 rcases Mn (n:=n) (j:=0) (s.ae [2]) with⟨g1,g2⟩|⟨i,g1,g2⟩
 ·refine au.op rfl rfl rfl (fQ rfl rfl g2) ?_
  exact zk 10 rfl (zt rfl (eU rfl rfl) (rfl) (zk 18 rfl (WP.ret ⟨aa,_,rfl,rfl,.inl ⟨by simp only[heldI,g1],rfl⟩⟩)))
 ·obtain⟨i,f,rfl,hf⟩:=J.at g1
  have hl:=(List.getElem?_eq_some_iff.1 hf).1
  have hh:heldI π n=if f.pins=0 then none else some i:=by grind[heldI]
  obtain⟨pre,fv,post,I,hlen,s'⟩:=jr (s.ae [1]) hf
  refine zo rfl (fQ rfl rfl g2) (zk 10 rfl (zh rfl (eU rfl rfl) (rfl) (zk 3 rfl (zY s 0 mu qx rfl (zm rfl (zo rfl (c8 rfl rfl (nJ (i:=i) hl)) (zf rfl (rG _ _) (zl rfl (s'.ld (k:=0) rfl dJ (i_ I rfl)) ?_))))))))
  refine zd rfl (ay rfl rfl dm) ?_ ?_
  ·intro hq
   have hq:f.pins=0:=by grind
   exact zk 8 rfl (WP.ret ⟨aa,_,rfl,rfl,.inl ⟨by grind,rfl⟩⟩)
  ·intro hq
   have hq:f.pins≠0:=by grind
   exact zk 8 rfl (zY s 0 mu qx rfl (zm rfl (zo rfl (c8 rfl rfl (nJ (i:=i) hl)) (zk 3 rfl (WP.ret ⟨aa,_,rfl,rfl,.inr ⟨i,f,by grind,hf,rfl⟩⟩)))))
theorem I9 (hT:W told){n:Int}(s:Sat h (eo r p q π::S))(J:π.Ok):
  Call ⟨Tryz.prog,told⟩ 95 [.ptr r 0,.int .i64 n] h fun v h'=>v=.int .i64 (unpinF π n).1∧Sat h' (eo r p q (unpinF π n).2::S):=by
 have s0:=s
 obtain⟨cZ,wh,di,s⟩:=fY.1 s
 refine Call.of_wp (hT.free _ rfl) Tryz.func95 rfl rfl (zK 8 rfl (zc rfl (Mq (n:=n) hT s J) ?_))
 rintro v h' ⟨rfl,(⟨hh,rfl⟩|⟨i,f,hh,hf,rfl⟩)⟩
 ·have he:unpinF π n=(18,π):=by simp only[unpinF,hh]
  rw[he]
  exact zk 10 rfl (zB rfl aD (rfl) (zk 7 rfl (WP.ret ⟨aa,_,rfl,rfl,s0⟩)))
 ·have he:unpinF π n=(0,{ π with ai:=π.ai.set i { f with pins:=f.pins-1 } }):=by simp only[unpinF,hh,hf]
  rw[he]
  obtain⟨pre,fv,post,I,hlen,s⟩:=jr (s.ae [1]) hf
  have Ty:=J.pins f (bK hf)
  refine zk 10 rfl (zC rfl aD (rfl) (zk 7 rfl (zf rfl (rG _ _) (zl rfl (s.ld (k:=0) rfl dJ (i_ I rfl)) (zb rfl (by exact jI (aA (by omega) (by omega))) ?_)))))
  refine zn rfl (zf rfl (rG _ _) (zS rfl (s.stM (k:=0) (j:=2) rfl lR I hlen (by simp[gF]) rfl rfl) ?_))
  intro h s
  have e5:(gF f fv).set 2 (.int .i64 (f.pins-1))=gF { f with pins:=f.pins-1 } fv:=rfl
  rw[e5] at s
  refine zk 5 rfl (WP.ret ⟨aa,_,rfl,?_⟩)
  refine⟨rfl,fY.2 ⟨cZ,wh,di,?_⟩⟩
  have s:=gN (i:=i) (f':={ f with pins:=f.pins-1 }) s rfl hf I
  rw[dg]
  exact s.ae [1,0]
set_option maxHeartbeats 1000000 in
theorem Xy (J:W told){n:Int}(s:Sat h (eo r p q π::X::S))(hX:cN X (cP bv b))(Tz:π.Ok)(hb:b.length<9223372036854775808):
  Call ⟨Tryz.prog,told⟩ 108 [.ptr r 0,.int .i64 n,bv,.int .u64 (aF:Int)] h fun v h'=>v=.int .i64 (lK π n b aF).1∧Sat h' (eo r p q (lK π n b aF).2::X::S):=by
 have s0:=s
 obtain⟨cZ,wh,di,s⟩:=fY.1 s
 refine Call.of_wp (J.free _ rfl) Tryz.func108 rfl rfl (zK 8 rfl (zc rfl (Mq (n:=n) J s Tz) ?_))
 rintro v h' ⟨rfl,(⟨hh,rfl⟩|⟨i,f,hh,hf,rfl⟩)⟩
 ·have he:lK π n b aF=(18,π):=by simp only[lK,hh]
  rw[he]
  exact zk 10 rfl (zB rfl aD (rfl) (zk 7 rfl (WP.ret ⟨aa,_,rfl,rfl,s0⟩)))
 ·have he:lK π n b aF=(if cf b=false then(4,π) else(0,{ π with ai:=π.ai.set i { f with b:=cz b aF,changed:=true },bO:=b8 n (fS π n aF,true) π.bO })):=by simp only[lK,hh,hf]
  rw[he]
  refine zk 10 rfl (zC rfl aD (rfl) (zk 7 rfl (zc rfl (Me (n:=aF) J (s.ae [4]) hX hb) ?_)))
  rintro v h (⟨hg,u,rfl,s⟩|⟨hg,rfl,s⟩)
  ·rw[ak (by grind)]
   have hul:(cz b aF).length=512:=by
    grind[xY,fb,cz,cI,cO]
   obtain⟨kz,_,cap,_,rfl,_⟩:=s.fU (by omega)
   have s:=s.gu
   obtain⟨pre,fv,post,I,hlen,s⟩:=jr (s.ae [3]) hf
   refine zk 10 rfl (zC rfl aD (rfl) (zk 9 rfl (zf rfl (BE _ _) (zS rfl (s.stM (k:=0) (j:=1) rfl gY I hlen (by simp[gF]) rfl rfl) ?_))))
   intro h s
   refine zn rfl (zf rfl (FG _ _) (zS rfl (s.stM (k:=0) (j:=4) rfl yR I (by grind) (by simp[gF]) rfl rfl) ?_))
   intro h s
   have e5:((gF f fv).set 1 (.sl kz 0 (cz b aF).length cap)).set 4 (.bool true)=gF { f with b:=cz b aF,changed:=true } (.sl kz 0 (cz b aF).length cap):=rfl
   rw[e5] at s
   have s:=gN (i:=i) (f':={ f with b:=cz b aF,changed:=true }) (s.ae [0,0,1]) rfl hf I
   have s:=s.ae [3,4,0]
   refine zk 5 rfl (zY s 0 ua BA rfl (zm rfl ?_))
   rcases Mp (n:=n) (s.ae [1]) with⟨g1,g2,_⟩|⟨x,g1,g2,_⟩
   ·refine au.op rfl rfl rfl (fQ rfl rfl g2) ?_
    refine zk 3 rfl ?_
    refine au.bD s rfl rfl rfl (bI BD) (fun ZU h s => ?_)
    refine zS rfl (s.eS (j:=0) rfl BC rfl rfl) (fun h s => ?_)
    refine zk 6 rfl (zo rfl (eU rfl rfl) (zk 4 rfl (zf rfl (FE _ _) ?_)))
    refine zS rfl (by exact s.dK (k:=0) rfl kD rfl (by decide) rfl rfl) (fun h s => ?_)
    refine zk 3 rfl (zf rfl (L5 _ _) ?_)
    refine zS rfl (by exact s.dK (k:=0) rfl yR rfl (by decide) rfl rfl) (fun h s => ?_)
    refine zk 2 rfl (WP.drawn [af,af,af,af,af,af,af] rfl (by kernel_rfl) (by kernel_rfl) ?_)
    refine zM rfl (zN rfl (zF rfl (ua _ _) (zL rfl (s.ld (k:=1) rfl BA rfl) (zM rfl (zL rfl (s.cV (k:=0) rfl VO BC) (az.gh rfl rfl rfl (OpR.mapUpdate rfl rfl rfl rfl (lH (f:=fun v (x:Nat×Bool)=>.pu (v=.agg [.int .u64 (x.1:Int),.bool x.2])) (x:=(aF,true)) (fun _ _=>bg.pu _) ((s.ae [2]).fB rfl) Ag br)) ?_))))))
    intro w h s
    refine az.nil ⟨⟨aa,aa,aa,aa,aa,aa,aa,aa⟩,?_⟩
    refine zK 4 rfl (WP.ret ⟨aa,_,rfl,?_⟩)
    have ed:fS π n aF=aF:=by simp only[fS,g1]
    rw[ed]
    refine⟨rfl,fY.2 ⟨cZ,wh,di,?_⟩⟩
    have e6:(π.ai.set i { f with b:=cz b aF,changed:=true }).length=π.ai.length:=dg
    show Sat h (pt r (.cells 6 (qD p q cZ (π.ai.set i { f with b:=cz b aF,changed:=true }).length wh di π.hand) false)::_)
    rw[e6]
    exact((s.ae [2,2,4,0,2]).del 6).del 5
   ·skip
    refine zo rfl (fQ rfl rfl g2) (zk 3 rfl ?_)
    refine au.bD s rfl rfl rfl (bI BD) (fun ZU h s => ?_)
    refine zS rfl (s.eS (j:=0) rfl BC rfl rfl) (fun h s => ?_)
    refine zk 6 rfl (zo rfl (eU rfl rfl) (zk 5 rfl (zf rfl (L5 _ _) ?_)))
    refine zS rfl (by exact s.dK (k:=0) rfl yR rfl (by decide) rfl rfl) (fun h s => ?_)
    refine zk 2 rfl (WP.drawn [af,af,af,af,af,af,af] rfl (by kernel_rfl) (by kernel_rfl) ?_)
    refine zM rfl (zN rfl (zF rfl (ua _ _) (zL rfl (s.ld (k:=1) rfl BA rfl) (zM rfl (zL rfl (s.cV (k:=0) rfl VO BC) (az.gh rfl rfl rfl (OpR.mapUpdate rfl rfl rfl rfl (lH (f:=fun v (x:Nat×Bool)=>.pu (v=.agg [.int .u64 (x.1:Int),.bool x.2])) (x:=(x.1,true)) (fun _ _=>bg.pu _) ((s.ae [2]).fB rfl) Ag br)) ?_))))))
    intro w h s
    refine az.nil ⟨⟨aa,aa,aa,aa,aa,aa,aa,aa⟩,?_⟩
    refine zK 4 rfl (WP.ret ⟨aa,_,rfl,?_⟩)
    have ed:fS π n aF=x.1:=by simp only[fS,g1]
    rw[ed]
    refine⟨rfl,fY.2 ⟨cZ,wh,di,?_⟩⟩
    have e6:(π.ai.set i { f with b:=cz b aF,changed:=true }).length=π.ai.length:=dg
    show Sat h (pt r (.cells 6 (qD p q cZ (π.ai.set i { f with b:=cz b aF,changed:=true }).length wh di π.hand) false)::_)
    rw[e6]
    exact((s.ae [2,2,4,0,2]).del 6).del 5
  ·rw[aC hg]
   exact zk 10 rfl (zB rfl aD (rfl) (zk 7 rfl (WP.ret ⟨aa,_,rfl,rfl,fY.2 ⟨cZ,wh,di,s.ae [1,1,1,1,0]⟩⟩)))
theorem ZV (hT:W told){n:Int}(s:Sat h (eo r p q π::S)): Call ⟨Tryz.prog,told⟩ 172 [.ptr r 0,.int .i64 n] h fun v h'=>v=.aQ [.int .u64 (fS π n 0:Nat),.bool (lookL n π.bO).isSome]∧Sat h' (eo r p q π::S):=by
 obtain⟨cZ,wh,di,s⟩:=fY.1 s
 refine Call.of_wp (hT.free _ rfl) Tryz.func172 rfl rfl (zK 9 rfl (zY s 0 ua BA rfl (zm rfl ?_)))
 rcases Mp (n:=n) (s.ae [3]) with⟨I,J,_⟩|⟨x,I,J,_⟩
 ·refine au.op rfl rfl rfl (fQ rfl rfl J) ?_
  refine zk 3 rfl ?_
  refine au.bD s rfl rfl rfl (bI BD) (fun p6 h s => ?_)
  refine zS rfl (s.eS (j:=0) rfl BC rfl rfl) (fun h s => ?_)
  exact zk 4 rfl (zY s 0 FE dL rfl (zk 4 rfl (WP.ret ⟨aa,_,rfl,by simp only[fS,I];rfl,fY.2 ⟨cZ,wh,di,s.drop⟩⟩)))
 ·skip
  refine zo rfl (fQ rfl rfl J) (zk 3 rfl ?_)
  refine au.bD s rfl rfl rfl (bI BD) (fun p6 h s => ?_)
  refine zS rfl (s.eS (j:=0) rfl BC rfl rfl) (fun h s => ?_)
  exact zk 4 rfl (zY s 0 FE dL rfl (zk 4 rfl (WP.ret ⟨aa,_,rfl,by simp only[fS,I];rfl,fY.2 ⟨cZ,wh,di,s.drop⟩⟩)))
def fh : Fm:=⟨-1,[],0,false,false⟩
def dP (π:Pl)(i:Nat)(f:Fm): Pl:={ π with ai:=π.ai.set i fh,bQ:=if f.aK<0 then π.bQ else lG f.aK π.bQ }
def jy (π:Pl)(i:Nat)(n:Int)(b:List Nat): Pl:={ π with ai:=π.ai.set i ⟨n,b,1,true,false⟩,bQ:=b8 n (i:Int) π.bQ }
inductive gx (ε:bA)(n:Int): Int→List Nat→bA→Prop where
 |arg (h:¬(0≤n∧n<ε.2.2.aq.length)):gx ε n 1 [] ε
 |D3 (i:Nat) (f:Fm) (h1:0≤n) (h2:n<ε.2.2.aq.length) (hl:lookL n ε.1.bQ=some (i:Int)) (hf:ε.1.ai[i]?=some f):gx ε n 0 f.b ({ ε.1 with ai:=ε.1.ai.set i { f with fX:=true,pins:=f.pins+1 } },ε.2)
 |out (cn:Pl) (i:Nat) (f:Fm) (h1:0≤n) (h2:n<ε.2.2.aq.length) (hl:lookL n ε.1.bQ=none) (hn:gv ε.1 cn) (hf:cn.ai[i]?=some f) (hh:cn.hand<cn.ai.length) (he:(outF (cn,ε.2) i).1≠0):gx ε n (outF (cn,ε.2) i).1 [] (outF (cn,ε.2) i).2
 |read (cn:Pl) (i:Nat) (f:Fm) (h1:0≤n) (h2:n<ε.2.2.aq.length) (hl:lookL n ε.1.bQ=none) (hn:gv ε.1 cn) (hf:cn.ai[i]?=some f) (hh:cn.hand<cn.ai.length) (he:(outF (cn,ε.2) i).1=0)
   (hr:(outF (cn,ε.2) i).2.2.2.rY n≠0):gx ε n ((outF (cn,ε.2) i).2.2.2.rY n) [] (dP (outF (cn,ε.2) i).2.1 i f,(outF (cn,ε.2) i).2.2)
 |bad (cn:Pl) (i:Nat) (f:Fm) (h1:0≤n) (h2:n<ε.2.2.aq.length) (hl:lookL n ε.1.bQ=none) (hn:gv ε.1 cn) (hf:cn.ai[i]?=some f) (hh:cn.hand<cn.ai.length) (he:(outF (cn,ε.2) i).1=0)
   (hr:(outF (cn,ε.2) i).2.2.2.rY n=0) (hc:gM ((outF (cn,ε.2) i).2.2.2.at n)≠0):gx ε n (gM ((outF (cn,ε.2) i).2.2.2.at n)) [] (dP (outF (cn,ε.2) i).2.1 i f,(outF (cn,ε.2) i).2.2)
 |load (cn:Pl) (i:Nat) (f:Fm) (h1:0≤n) (h2:n<ε.2.2.aq.length) (hl:lookL n ε.1.bQ=none) (hn:gv ε.1 cn) (hf:cn.ai[i]?=some f) (hh:cn.hand<cn.ai.length) (he:(outF (cn,ε.2) i).1=0)
   (hr:(outF (cn,ε.2) i).2.2.2.rY n=0) (hc:gM ((outF (cn,ε.2) i).2.2.2.at n)=0):gx ε n 0 ((outF (cn,ε.2) i).2.2.2.at n) (jy (dP (outF (cn,ε.2) i).2.1 i f) i n ((outF (cn,ε.2) i).2.2.2.at n),(outF (cn,ε.2) i).2.2)
theorem CR (h:ε.2.2.Ok): (outF ε i).2.2.2.Ok:=by
 unfold outF
 split
 ·exact h
 ·split
  ·exact h
  ·split
   ·exact h
   ·split
    ·exact qC h
    ·split
     ·exact(qC h).bL
     ·exact(qC h).bL
theorem TA (h:ε.2.1.Ok): (outF ε i).2.2.1.Ok:=by
 grind[outF,Cj]
theorem om (I:ε.1.ai[i]?=some f): ∃c,(outF ε i).2.1.ai[i]?=some { f with changed:=c }:=by
 have J:=(List.getElem?_eq_some_iff.1 I).1
 unfold outF
 rw[I]
 dsimp only
 split
 ·exact⟨f.changed,I⟩
 ·split
  ·exact⟨f.changed,I⟩
  ·split
   ·exact⟨f.changed,I⟩
   ·split
    ·exact⟨f.changed,I⟩
    simp_all
set_option maxHeartbeats 1000000 in
theorem Qu (hT:W told){n:Int}(s:Sat h (eo r p q π::bS q p μ::aO p δ::S))(Tz:π.Ok)(Ty:∀f∈π.ai,f.pins=0)(qO:μ.Ok)(oU:δ.Ok)(hw:δ.waiting.length≤268435456):
  Call ⟨Tryz.prog,told⟩ 94 [.ptr r 0,.int .i64 n] h fun v h'=>∃(e:Int) (b:List Nat) (ε:bA),gx (π,μ,δ) n e b ε ∧
   ((e≠0∧v=.aQ [.aY,.int .i64 e]∧Sat h' (eo r p q ε.1::bS q p ε.2.1::aO p ε.2.2::S))∨(e=0∧∃u,v=.aQ [u,.int .i64 0]∧Sat h' (aZ u b::eo r p q ε.1::bS q p ε.2.1::aO p ε.2.2::S))):=by
 have s0:=s
 obtain⟨cZ,wh,di,s⟩:=fY.1 s
 refine Call.of_wp (hT.free _ rfl) Tryz.func94 rfl rfl (zK 9 rfl ?_)
 refine zd rfl (ay rfl rfl aT) ?_ ?_
 ·intro hq
  have hq:n<0:=by grind
  exact zk 16 rfl (WP.ret ⟨aa,_,rfl,1,[],(π,μ,δ),.arg (fun q=>by omega),.inl ⟨by decide,rfl,s0⟩⟩)
 ·intro hq
  have hq:0≤n:=by grind
  refine zk 4 rfl (zY s 0 BB qv rfl (zc rfl (xW hT (s.ae [5])) ?_))
  rintro v h' ⟨rfl,rfl⟩
  refine zd rfl (ay rfl rfl jg) ?_ ?_
  ·intro ku
   have ku:¬ n<δ.aq.length:=by grind
   exact zk 8 rfl (WP.ret ⟨aa,_,rfl,1,[],(π,μ,δ),.arg (fun q=>ku q.2),.inl ⟨by decide,rfl,s0⟩⟩)
  ·intro ku
   have ku:n<δ.aq.length:=by grind
   refine zk 9 rfl (zY s 0 w6 DN rfl (zm rfl ?_))
   rcases Mn (n:=n) (j:=0) (s.ae [2]) with⟨g1,g2⟩|⟨i,g1,g2⟩
   ·refine au.op rfl rfl rfl (fQ rfl rfl g2) ?_
    refine zk 15 rfl (zc rfl (Tx hT s Tz.hand (by have:=Tz.many;omega) Ty) ?_)
    rintro v h ⟨i,cn,f,rfl,qE,hf,hh,s⟩
    have hl:=(List.getElem?_eq_some_iff.1 hf).1
    rw[←qE.bQ,←qE.bO] at s
    have hfb:f.b.length≤512:=by
     have h1:π.ai[i]?=some (π.ai[i]'(by have:=qE.len;omega)):=bw _
     generalize (π.ai[i]'(by grind))=f0 at h1
     obtain⟨t,ht⟩:=qE.get i f0 h1
     rw[hf] at ht
     have:=cg ht
     rw[this]
     exact Tz.len f0 (bK h1)
    refine zk 6 rfl (zC rfl aT (by rfl) ?_)
    refine zk 7 rfl (zY s 0 mu qx rfl (zm rfl (zo rfl (c8 rfl rfl (nJ (i:=i) hl)) (zk 7 rfl (zc rfl (ZR (π:=cn) hT s hf qO oU (by omega) hw) ?_)))))
    rintro v h ⟨rfl,s⟩
    obtain⟨c,Cl⟩:=om (ε:=(cn,μ,δ)) hf
    have FM:=CR (ε:=(cn,μ,δ)) (i:=i) oU
    refine zk 5 rfl ?_
    by_cases he:(outF (cn,μ,δ) i).1=0
    ·generalize ho:outF (cn,μ,δ) i=o at he s Cl FM ⊢
     obtain⟨oe,I,μ1,Ar⟩:=o
     dsimp only at he s Cl FM ⊢
     subst he
     have Mr:(outF (cn,μ,δ) i).1=0:=by rw[ho]
     have GN:(outF (cn,μ,δ) i).2=(I,μ1,Ar):=by rw[ho]
     refine zC rfl aD (by decide) ?_
     obtain⟨pre,fv,post,J,hlen,s⟩:=jr (s.ae [1]) Cl
     refine zk 8 rfl (zf rfl (pX _ _) (zl rfl (s.ld (k:=0) rfl dJ (i_ J rfl)) ?_))
     refine zd rfl (ay rfl rfl jg) ?_ ?_
     ·intro gP
      have gP:¬ f.aK<0:=by grind
      refine zk 2 rfl (WP.drawn [af,af,af,af,af,af,af,af,af] rfl (by kernel_rfl) (by kernel_rfl) ?_)
      refine zM rfl (zN rfl (zF rfl (w6 _ _) (zL rfl (s.ld (k:=3) rfl DN rfl) (zM rfl (zN rfl (zF rfl (pX _ _) (zL rfl (s.ld (k:=0) rfl dJ (i_ J rfl)) (az.gh rfl rfl rfl (OpR.delete rfl rfl rfl rfl (xU (s.ae [4]) DQ br)) ?_))))))))
      intro v h s
      have s:=s.ae [1,1,1,1,0]
      refine az.nil ⟨⟨aa,aa,aa,aa,aa,aa,aa,aa,aa,aa⟩,?_⟩
      refine zK 3 rfl (zo rfl (cj rfl (by rw[HP];rfl)) ?_)
      refine zn rfl (zS rfl (s.I7 (k:=0) (row':=gF fh .aY) rfl DO J hlen (by rfl) rfl) ?_)
      intro h s
      have D4:(pre++(gF fh .aY++post)).length=I.ai.length*5:=by simpa[gF] using hlen
      have uA:(dP I i f).bQ=lG f.aK I.bQ:=by grind[dP]
      refine zk 5 rfl (zY s 3 BB qv rfl (zm rfl (zc rfl (Qt (n:=n) hT (s.ae [7]) FM) ?_)))
      rintro v h (⟨hr,rfl,s⟩|⟨hr,u,rfl,s⟩)
      ·dsimp only[bringA,getA,aE] at s
       refine zk 10 rfl (zB rfl aD (by grind) ?_)
       refine zk 8 rfl (WP.ret ⟨aa,_,rfl,?_⟩)
       have s:=gN (i:=i) (f':=fh) (v':=.aY) (s.rX.ae [2,2,0]) rfl Cl J
       have e6:(I.ai.set i fh).length=I.ai.length:=dg
       rw[←e6,←uA] at s
       have s:=(fY (π:=dP I i f)).2 ⟨cZ,wh,di,s.ae [3,0,2,2]⟩
       have hR:=gx.read (ε:=(π,μ,δ)) cn i f hq ku g1 qE hf hh Mr (by grind)
       rw[GN] at hR
       exact⟨_,[],_,hR,.inl ⟨hr,rfl,(s.del 2).ae [0,1,0]⟩⟩
      ·have abA:=FM.at n
       obtain⟨kz,_,cap,_,rfl,_⟩:=s.fU (by omega)
       refine zk 10 rfl (zC rfl aD (rfl) (zk 7 rfl (zc rfl (I0 hT s (aN _ _) (by omega)) ?_)))
       rintro v h ⟨rfl,s⟩
       refine zk 5 rfl ?_
       by_cases hc:gM (Ar.at n)=0
       ·skip
        refine zC rfl aD (by grind) ?_
        have s:=s.gu.ae [2,2,0,2,2,2,2,0,0]
        refine zk 8 rfl (zo rfl (cj rfl (by rw[HP];rfl)) ?_)
        refine zn rfl (zS rfl (s.I7 (k:=0) (row':=gF ⟨n,Ar.at n,1,true,false⟩ (.sl kz 0 (Ar.at n).length cap)) rfl DO J D4 (by rfl) rfl) ?_)
        intro h s
        refine zk 5 rfl (zY s 3 w6 DN rfl (zk 2 rfl (au.gh rfl rfl (OpR.mapUpdate rfl rfl rfl rfl (lH (f:=fun v (x:Int)=>.pu (v=.int .i64 x)) (x:=(i:Int)) (fun _ _=>bg.pu _) ((s.ae [4]).fB rfl) DQ br)) ?_)))
        intro w h s
        refine zk 4 rfl (zc rfl (xV hT (s.ae [3]) (dy _ _) (by omega)) ?_)
        intro u h s
        refine zk 3 rfl (WP.ret ⟨aa,_,rfl,?_⟩)
        have s:=gN (i:=i) (f':=⟨n,Ar.at n,1,true,false⟩) (s.ae [3,3,1]) rfl Cl J
        have e6:(I.ai.set i ⟨n,Ar.at n,1,true,false⟩).length=I.ai.length:=dg
        have e7:(jy (dP I i f) i n (Ar.at n)).ai=I.ai.set i ⟨n,Ar.at n,1,true,false⟩:=by simp[jy,dP]
        rw[←e6,←e7,←uA] at s
        have s:=(fY (π:=jy (dP I i f) i n (Ar.at n))).2 ⟨cZ,wh,di,s.ae [3,0,1,1]⟩
        have hR:=gx.load (ε:=(π,μ,δ)) cn i f hq ku g1 qE hf hh Mr (by grind) (by grind)
        rw[GN] at hR
        exact⟨_,_,_,hR,.inr ⟨rfl,u,rfl,(s.del 4).ae [1,0]⟩⟩
       ·skip
        refine zB rfl aD (by grind) ?_
        refine zk 8 rfl (WP.ret ⟨aa,_,rfl,?_⟩)
        have s:=s.drop
        have s:=gN (i:=i) (f':=fh) (v':=.aY) (s.rX.ae [2,2,0]) rfl Cl J
        dsimp only[bringA,getA,aE] at s
        have e6:(I.ai.set i fh).length=I.ai.length:=dg
        rw[←e6,←uA] at s
        have s:=(fY (π:=dP I i f)).2 ⟨cZ,wh,di,s.ae [3,0,2,2]⟩
        dsimp only[bringA,getA,aE] at s
        have hR:=gx.bad (ε:=(π,μ,δ)) cn i f hq ku g1 qE hf hh Mr (by grind) (by grind)
        rw[GN] at hR
        exact⟨_,[],_,hR,.inl ⟨hc,rfl,(s.del 2).ae [0,1,0]⟩⟩
     ·intro gP
      have gP:f.aK<0:=by grind
      refine zk 6 rfl (zo rfl (cj rfl (by rw[HP];rfl)) ?_)
      refine zn rfl (zS rfl (s.I7 (k:=0) (row':=gF fh .aY) rfl DO J hlen (by rfl) rfl) ?_)
      intro h s
      dsimp only[setA] at s
      have D4:(pre++(gF fh .aY++post)).length=I.ai.length*5:=by simpa[gF] using hlen
      have uA:(dP I i f).bQ=I.bQ:=by grind[dP]
      refine zk 5 rfl (zY s 3 BB qv rfl (zm rfl (zc rfl (Qt (n:=n) hT (s.ae [7]) FM) ?_)))
      rintro v h (⟨hr,rfl,s⟩|⟨hr,u,rfl,s⟩)
      ·dsimp only[bringA,getA,aE] at s
       refine zk 10 rfl (zB rfl aD (by grind) ?_)
       refine zk 8 rfl (WP.ret ⟨aa,_,rfl,?_⟩)
       have s:=gN (i:=i) (f':=fh) (v':=.aY) (s.rX.ae [2,2,0]) rfl Cl J
       dsimp only[bringA,getA,aE] at s
       have e6:(I.ai.set i fh).length=I.ai.length:=dg
       rw[←e6,←uA] at s
       have s:=(fY (π:=dP I i f)).2 ⟨cZ,wh,di,s.ae [3,0,2,2]⟩
       dsimp only[bringA,getA,aE] at s
       have hR:=gx.read (ε:=(π,μ,δ)) cn i f hq ku g1 qE hf hh Mr (by grind)
       rw[GN] at hR
       exact⟨_,[],_,hR,.inl ⟨hr,rfl,(s.del 2).ae [0,1,0]⟩⟩
      ·have abA:=FM.at n
       obtain⟨kz,_,cap,_,rfl,_⟩:=s.fU (by omega)
       refine zk 10 rfl (zC rfl aD (rfl) (zk 7 rfl (zc rfl (I0 hT s (aN _ _) (by omega)) ?_)))
       rintro v h ⟨rfl,s⟩
       refine zk 5 rfl ?_
       by_cases hc:gM (Ar.at n)=0
       ·skip
        refine zC rfl aD (by grind) ?_
        have s:=s.gu.ae [2,2,0,2,2,2,2,0,0]
        dsimp only[bringA,getA,aE] at s
        refine zk 8 rfl (zo rfl (cj rfl (by rw[HP];rfl)) ?_)
        refine zn rfl (zS rfl (s.I7 (k:=0) (row':=gF ⟨n,Ar.at n,1,true,false⟩ (.sl kz 0 (Ar.at n).length cap)) rfl DO J D4 (by rfl) rfl) ?_)
        intro h s
        dsimp only[setA] at s
        refine zk 5 rfl (zY s 3 w6 DN rfl (zk 2 rfl (au.gh rfl rfl (OpR.mapUpdate rfl rfl rfl rfl (lH (f:=fun v (x:Int)=>.pu (v=.int .i64 x)) (x:=(i:Int)) (fun _ _=>bg.pu _) ((s.ae [4]).fB rfl) DQ br)) ?_)))
        intro w h s
        dsimp only[bringA,getA,aE] at s
        refine zk 4 rfl (zc rfl (xV hT (s.ae [3]) (dy _ _) (by omega)) ?_)
        intro u h s
        dsimp only[bringA,getA,aE] at s
        refine zk 3 rfl (WP.ret ⟨aa,_,rfl,?_⟩)
        have s:=gN (i:=i) (f':=⟨n,Ar.at n,1,true,false⟩) (s.ae [3,3,1]) rfl Cl J
        dsimp only[bringA,getA,aE] at s
        have e6:(I.ai.set i ⟨n,Ar.at n,1,true,false⟩).length=I.ai.length:=dg
        have e7:(jy (dP I i f) i n (Ar.at n)).ai=I.ai.set i ⟨n,Ar.at n,1,true,false⟩:=by simp[jy,dP]
        rw[←e6,←e7,←uA] at s
        have s:=(fY (π:=jy (dP I i f) i n (Ar.at n))).2 ⟨cZ,wh,di,s.ae [3,0,1,1]⟩
        dsimp only[bringA,getA,aE] at s
        have hR:=gx.load (ε:=(π,μ,δ)) cn i f hq ku g1 qE hf hh Mr (by grind) (by grind)
        rw[GN] at hR
        exact⟨_,_,_,hR,.inr ⟨rfl,u,rfl,(s.del 4).ae [1,0]⟩⟩
       ·skip
        refine zB rfl aD (by grind) ?_
        refine zk 8 rfl (WP.ret ⟨aa,_,rfl,?_⟩)
        have s:=s.drop
        have s:=gN (i:=i) (f':=fh) (v':=.aY) (s.rX.ae [2,2,0]) rfl Cl J
        dsimp only[bringA,getA,aE] at s
        have e6:(I.ai.set i fh).length=I.ai.length:=dg
        rw[←e6,←uA] at s
        have s:=(fY (π:=dP I i f)).2 ⟨cZ,wh,di,s.ae [3,0,2,2]⟩
        dsimp only[bringA,getA,aE] at s
        have hR:=gx.bad (ε:=(π,μ,δ)) cn i f hq ku g1 qE hf hh Mr (by grind) (by grind)
        rw[GN] at hR
        exact⟨_,[],_,hR,.inl ⟨hc,rfl,(s.del 2).ae [0,1,0]⟩⟩
    ·skip
     refine zB rfl aD (by grind) ?_
     exact zk 8 rfl (WP.ret ⟨aa,_,rfl,_,[],_,.out cn i f hq ku g1 qE hf hh he,.inl ⟨he,rfl,fY.2 ⟨cZ,wh,di,s⟩⟩⟩)
   ·obtain⟨i,f,rfl,hf⟩:=Tz.at g1
    have hl:=(List.getElem?_eq_some_iff.1 hf).1
    obtain⟨pre,fv,post,J,hlen,s⟩:=jr (s.ae [1]) hf
    have uw:=Ty f (bK hf)
    have Vn:=Tz.len f (bK hf)
    refine zo rfl (fQ rfl rfl g2) (zk 15 rfl (zY s 3 mu qx rfl (zm rfl (zo rfl (c8 rfl rfl (nJ (i:=i) hl)) (zk 6 rfl (zf rfl (FF _ _) (zS rfl (s.stM (k:=0) (j:=3) rfl yR J hlen (by simp[gF]) rfl rfl) ?_)))))))
    intro h s
    dsimp only[setA] at s
    refine zk 5 rfl (zf rfl (rG _ _) (zl rfl (s.ld (k:=0) rfl dJ (i_ J rfl)) (zb rfl (by exact bf (aA (by omega) (by omega))) ?_)))
    refine zn rfl (zf rfl (rG _ _) (zS rfl (s.stM (k:=0) (j:=2) rfl lR J (by grind) (by simp[gF]) rfl rfl) ?_))
    intro h s
    have e5:((gF f fv).set 3 (.bool true)).set 2 (.int .i64 (f.pins+1))=gF { f with fX:=true,pins:=f.pins+1 } fv:=rfl
    rw[e5] at s
    refine zk 5 rfl (zf rfl (BE _ _) (zl rfl (s.ld (k:=0) rfl bJ (i_ J rfl)) (zc rfl (xV hT (s.ae [2]) (dy _ _) (by omega)) ?_)))
    intro u h s
    refine zk 3 rfl (WP.ret ⟨aa,_,rfl,?_⟩)
    have s:=gN (i:=i) (f':={ f with fX:=true,pins:=f.pins+1 }) (s.ae [2,2,1]) rfl hf J
    refine⟨0,f.b,_,.D3 i f hq ku g1 hf,.inr ⟨rfl,u,rfl,?_⟩⟩
    have e6:(π.ai.set i { f with fX:=true,pins:=f.pins+1 }).length=π.ai.length:=dg
    rw[←e6] at s
    exact((fY (π:={ π with ai:=π.ai.set i { f with fX:=true,pins:=f.pins+1 } })).2 ⟨cZ,wh,di,s.ae [2,0,1,1]⟩).ae [1,0]
end
def D5 : Fm:=⟨0,[],0,false,false⟩
def Pl.fresh (n:Nat): Pl:=⟨List.replicate n fh,[],[],0⟩
theorem Xz : ∃i,Tryz.prog.info? 230=some i∧i.size=5∧i.bytes=48 :=
 ⟨_,(show Tryz.prog.info? 230=some ((Tryz.prog.info? 230).getD default) by kernel_rfl),by kernel_rfl,by kernel_rfl⟩
theorem TB {a b:PM}: ∀n:Nat,(uO (repeatL [.int .i64 0,.aY,.int .i64 0,.bool false,.bool false] n) (List.replicate n D5)).p a b:=by
 intro n
 induction n with
 |zero=>trivial
 |succ n I=>exact⟨⟨⟨rfl,rfl,rfl,rfl⟩,⟨(by intro b J;cases J),.inl ⟨.inl rfl,rfl⟩⟩⟩,I⟩
section
variable {told:cJ} {p:Nat} {v:V} {m:List Fm}
noncomputable def pnL : Code:=cU [1,1,1,0,1,0,0] ((Tryz.f64.body).getD .skip)
theorem Qv (hn:n<4294967296): ∀(j i:Nat) (m:List Fm) (h:H) (E:List (Nat×V)) (Q:Ex→List (Nat×V)→H→Prop),i+j=n→m=List.replicate i fh++List.replicate j D5 →
  Sat h (pt r (.cells 6 (qD p q cZ n wh di 0) false)::fc cZ m::S)→Has E [(8,.ptr r 0),(28,.int .i64 n),(29,.int .i64 i)] →
  (∀E' h',Has E' [(8,.ptr r 0)]→Sat h' (pt r (.cells 6 (qD p q cZ n wh di 0) false)::fc cZ (List.replicate n fh)::S)→Q (.exit 0) E' h')→WP ⟨Tryz.prog,told⟩ 41 (.loop pnL) E h Q:=by
 intro j
 induction j with
 |zero =>
  intro i m h E Q hi hm s J hx
  refine WP.loop (WP.has J (zg rfl (zC rfl aT (by simp<;>omega) ?_)))
  refine zk 3 rfl (WP.exit (hx _ _ ⟨rfl,aa⟩ ?_))
  rw[hm] at s
  have:i=n:=by omega
  subst this
  simpa using s
 |succ j ih =>
  intro i m h E Q hi hm s J hx
  have Ms:m.length=n:=by rw[hm];simp;omega
  have hf:m[i]?=some D5:=by rw[hm,vY (by simp)];simp[ET]
  obtain⟨pre,fv,post,I,hlen,s⟩:=jr (s.ae [1]) hf
  dsimp only[bringA,getA,aE] at s
  refine WP.loop (WP.has J (zg rfl (zB rfl aT (by simp<;>omega) ?_)))
  refine zk 5 rfl (WP.block (zK 8 rfl (zY s 3 mu qx rfl (zm rfl (zo rfl (c8 rfl rfl (nJ (i:=i) (by omega))) ?_)))))
  refine zf rfl (pX _ _) (zS rfl (s.stM (k:=0) (j:=0) rfl lR I hlen (by simp[gF]) rfl rfl) ?_)
  intro h s
  dsimp only[setA] at s
  have e5:(gF D5 fv).set 0 (.int .i64 (-1))=gF fh fv:=rfl
  rw[e5] at s
  refine zv (zr rfl (zb rfl (by exact bf (aA (by omega) (by omega))) ?_))
  refine zm rfl (zv ?_)
  have s:=gN (i:=i) (f':=fh) s rfl hf I
  refine ih (i+1) (m.set i fh) h _ Q (by omega) ?_ (s.ae [1,0]) ⟨rfl,rfl,rfl,aa⟩ hx
  rw[hm,List.set_append_right _ _ (by simp),eY,Be,ET,List.set_cons_zero,List.replicate_succ',cT]
  rfl
theorem Mt (hT:W told){n:Int}(s:Sat h S): Call ⟨Tryz.prog,told⟩ 64 [.ptr p 0,.ptr q 0,.int .i64 n] h fun v h' =>
  (¬(1≤n∧n≤1024)∧v=.aQ [.bq,.int .i64 1]∧Sat h' S)∨(1≤n∧n≤1024∧∃r,v=.aQ [.ptr r 0,.int .i64 0]∧Sat h' (eo r p q (Pl.fresh n.toNat)::S)):=by
 refine Call.of_wp (hT.free _ rfl) Tryz.func64 rfl rfl (zK 9 rfl ?_)
 refine zd rfl (ay rfl rfl aT) ?_ ?_
 ·intro J
  have J:n<1:=by simpa using J
  exact zk 11 rfl (WP.ret ⟨aa,_,rfl,.inl ⟨fun q=>by omega,rfl,s⟩⟩)
 ·intro J
  have J:1≤n:=by simp at J;omega
  refine zk 2 rfl ?_
  refine zd rfl (ay rfl rfl fN) ?_ ?_
  ·intro I
   have I:1024<n:=by simpa using I
   exact zk 8 rfl (WP.ret ⟨aa,_,rfl,.inl ⟨fun q=>by omega,rfl,s⟩⟩)
  ·intro I
   have I:n≤1024:=by simp at I;omega
   obtain⟨n,rfl⟩:∃k:Nat,n=k:=⟨n.toNat,by omega⟩
   refine zk 9 rfl ?_
   obtain⟨i1,kA,jE,qg⟩:=Xz
   obtain⟨id,h1,e1,s1⟩:=Gz (P:=Tryz.prog) s Aj kA abm jE (by omega) rfl (by decide) (n:=n) (by omega)
   refine au.any rfl rfl rfl (OpR.of (R:=fun v h'=>v=.sl id 0 n (.exact n)∧h'=h1) (tu rfl rfl e1) ⟨rfl,rfl⟩) ?_
   rintro v h ⟨rfl,rfl⟩
   have s:Sat h (fc id (List.replicate n D5)::S):=j3.2 ⟨_,by rw[eY];exact((s1.fB (φ:=True) aa).iu fun a b _=>TB n).ae [1]⟩
   refine au.sQ s rfl rfl rfl rfl (fun p20 h s => ?_)
   refine au.sQ s rfl rfl rfl rfl (fun ZW h s => ?_)
   refine zo rfl (cj rfl (by rw[abj];rfl)) ?_
   refine au.bD s rfl rfl rfl (dB rfl rfl) (fun p23 h s => ?_)
   refine zk 7 rfl (zY s 0 mu qx rfl (zo rfl (aP rfl rfl rfl (p_ rfl Aj)) (zk 2 rfl (WP.block ?_))))
   have s:=pq (f:=fun v (x:Nat×Bool)=>.pu (v=.agg [.int .u64 (x.1:Int),.bool x.2])) (s.ae [1])
   have s:=pq (f:=fun v (x:Int)=>.pu (v=.int .i64 x)) (s.ae [2])
   have s:=s.ae [2,2,0,0]
   refine Qv (n:=n) (by omega) n 0 _ _ _ _ (by omega) rfl s ⟨rfl,rfl,rfl,aa⟩ (fun E' h' fE s' => ?_)
   refine WP.has fE (zK 6 rfl (WP.ret ⟨aa,_,rfl,?_⟩))
   refine .inr ⟨J,I,_,rfl,(fY (π:=Pl.fresh n)).2 ⟨id,.map p20,.map ZW,?_⟩⟩
   have e6:(Pl.fresh n).ai.length=n:=by simp[Pl.fresh]
   rw[e6]
   exact s'
end
theorem Qw : ∀ {l:cx} {b:Nat},fV c b l→bornUp c b (l.map qQ)=true:=by
 intro l
 induction l with
 |nil=>intro b _;rfl
 |cons e l I =>
  intro b h
  obtain⟨J,h2,h3⟩:=h
  simp only[fu,qQ,ja,bornUp]
  rw[show(Nat.ble b e.2.2&&Nat.blt e.2.2 c)=true by rw[bH,aL];exact⟨J,by rw[Nat.blt];exact aL.2 h2⟩,ah]
  exact I h3
theorem Oc : ∀ {l:cx},(∀e∈l,(Lit.int .i64 e.1).wf=true)→keyInts (l.map qQ)=some (l.map (·.1)):=by
 intro l
 induction l with
 |nil=>intro _;rfl
 |cons e l I =>
  intro h
  simp only[fu,qQ,ja,keyInts]
  rw[h e bX,ah]
  have:=I (fun e he=>h e (bW _ he))
  rw[this]
theorem K1 {x:Int}: ∀ {l:List Int},l.Pairwise (· < ·)→x∉l→(insI x l).Pairwise (· < ·):=by
 intro l
 induction l with
 |nil=>intro _ _;simp[insI]
 |cons y l ih =>
  intro h hx
  simp only[tI,jz,not_or] at h hx
  simp only[insI]
  by_cases J:x≤y
  ·rw[eE J,ah]
   have:x<y:=by omega
   simp only[tI,jz]
   refine⟨fun z I => ?_,h⟩
   rcases I with rfl|I
   ·exact this
   ·have:=h.1 z I;omega
  ·rw[gC J,aX]
   simp only[tI]
   refine⟨fun z I => ?_,ih h.2 hx.2⟩
   have:=(zZ x l).mem_iff.1 I
   rcases List.mem_cons.1 this with rfl|I
   ·omega
   ·exact h.1 z I
theorem K2 : ∀ {l:List Int},l.Nodup→(nc l).Pairwise (· < ·):=by
 intro l
 induction l with
 |nil=>intro _;exact List.Pairwise.nil
 |cons x l I =>
  intro h
  simp only[Bb] at h
  exact K1 (I h.2) (fun J=>h.1 ((eR l).mem_iff.1 J))
theorem TC : ∀ {l:List Int},l.Pairwise (· < ·)→sx l=true:=by
 intro l
 induction l with
 |nil=>intro _;rfl
 |cons x l I =>
  intro h
  simp only[tI] at h
  simp only[sx,bH,tK,ie]
  exact⟨h.1,I h.2⟩
section
variable {f:V→α→aI} {told:cJ} {mv:V} {m:List (Int×α)} {b:Nat}
def bP (m:List (Int×α)): List Int:=nc (m.map (·.1))
theorem h_ {n:Int}: n∈bP m↔n∈m.map (·.1):=(eR _).mem_iff
theorem TD (l:List Int): (dY l).all storable=true:=by simp[dY,storable]
theorem vt (hT:W told)(s:Sat h (pt b (.cells 1 [mv] false)::ng f mv m::S))(hg:xw BF g=true)(hm:m.length≤1048576)(hk:∀n∈m.map (·.1),(Lit.int .i64 n).wf=true):
  Call ⟨Tryz.prog,told⟩ 106 [.fn (.func g) [] [.ptr b 0]] h fun v h'=>Sat h' (.arr 1 v (dY (bP m))::pt b (.cells 1 [mv] false)::ng f mv m::S):=by
 obtain⟨id,l,c,rfl,hb,hn,s1⟩:=jZ.1 (s.ae [1])
 have s1:Sat h (nH id l c::fC f l m::pt b (.cells 1 [.map id] false)::S):=s1
 obtain⟨q1,q2,q3,q4,q5⟩:=s1.at (k:=1) rfl
 have I:=tA q5
 have hlen:l.length=m.length:=by have:=iW List.length I;simpa using this
 have xO:=s1.row (k:=0) rfl
 have acW:=s1.row (k:=2) rfl
 have mD:∀e∈l,(Lit.int .i64 e.1).wf=true:=fun e he=>hk e.1 (by rw[←I];exact tH he)
 have hri:sx (nc (l.map (·.1)))=true:=TC (K2 (by rw[I];exact hn))
 have J:∃v h',toldSorted BF [.fn (.func g) [] [.ptr b 0]] h=some (v,h')∧Sat h' (.arr 1 v (dY (bP m))::pt b (.cells 1 [.map id] false)::ng f (.map id) m::S):=by
  simp only[toldSorted,acW,xO,gD,hg,Qw hb,Oc mD,hri]
  rw[show(Nat.beq 1 1&&true&&true&&Nat.ble l.length 1048576)=true by rw[aL.2 (by omega)];rfl,ah]
  simp only[ah]
  cases hl:l.map (·.1) with
  |nil =>
   refine⟨_,_,rfl,?_⟩
   have:bP m=[]:=by rw[bP,←I,hl];rfl
   rw[this]
   exact s.kg
  |cons x xs =>
   refine⟨_,_,rfl,?_⟩
   have e1:bP m=nc (x::xs):=by rw[bP,←I,hl]
   have e2:(nc (x::xs)).length=(x::xs).length:=(eR _).length_eq
   have e3:(x::xs).length=l.length:=by rw[←hl,gD]
   rw[e1,←e3]
   refine(s.new (.cells (dY (nc (x::xs))).length (dY (nc (x::xs))) false)).iu fun a r Gi=>⟨TD _,.inr ⟨h.next,(x::xs).length,.rest 1 0,(dY (nc (x::xs))).length,[],rfl,?_,?_,by simp,rfl,rfl,rfl,rfl,by simp⟩⟩
   ·rw[eZ];exact Gi
   ·simp only[dY,gD,e2,iV]
 obtain⟨v,h',e1,e2⟩:=J
 exact⟨v,h',gJ.told hT.sorted Tryz.func106 rfl e1,e2⟩
end
structure As (ε:bA): Prop where
 pl:ε.1.Ok
 lg:ε.2.1.Ok
 dk:ε.2.2.Ok
theorem TE (h:ε.1.Ok): (outF ε i).2.1.Ok:=by
 unfold outF
 split
 ·exact h
 ·rename_i f J
  have hm:=bK J
  split
  ·exact h
  ·split
   ·exact h
   ·split
    ·exact h
    ·split
     ·exact h
     ·refine⟨by simp only[dg];exact h.hand,by simp only[dg];exact h.many,fun e he=>by simp only[dg];exact h.bQ e he,fun g I => ?_,fun g I => ?_⟩
      ·rcases pK I with I|rfl
       ·exact h.len g I
       ·exact h.len f hm
      ·rcases pK I with I|rfl
       ·exact h.pins g I
       ·exact h.pins f hm
theorem x_ (h:As ε): As (outF ε i).2:=⟨TE h.pl,TA h.lg,CR h.dk⟩
theorem K3 {n:Int}: (δ.bL n b).2.waiting.length≤δ.waiting.length+1:=by
 unfold Dk.bL
 split
 ·exact tP _
 ·split
  ·exact tP _
  ·split
   ·exact tP _
   ·exact Nat.le_of_eq (by simp[Dk.wr])
def I_ (ax:Nat)(Q:Ex→List (Nat×V)→H→Prop)(c:Ctx)(a:Act)(w:World)(e:Exit)(J:Act)(w':World): Prop :=
 ∃ex I h' E',e=exOf ex∧iM I E'∧Q ex E' h'∧J.defers=a.defers∧∃c',Rel c' h' w'∧dG c' I ax J∧cC c w c' w'
def WPO (C:ep)(ax:Nat)(code:Code)(E:List (Nat×V))(h:H)(Q:Ex→List (Nat×V)→H→Prop): Prop :=
 ∀(c:Ctx) (a:Act) (w:World) (env:Env),iM env E→Rel c h w→dG c env ax a→code.wpIn (Fr none) 0 C.P (I_ ax Q c a w) a w
section
variable {ax:Nat} {Q':Ex→List (Nat×V)→H→Prop} {a b:Code}
theorem I_.trans {c c₁:Ctx}{A I a':Act}{w J w':World}{e:Exit}(hd:I.defers=A.defers)(hs:cC c w c₁ J)(ho:I_ ax Q c₁ I J e a' w'): I_ ax Q c A w e a' w':=by
 obtain⟨ex,Ja,h',E',h1,h2,h3,h4,c',h5,h6,h7⟩:=ho
 exact⟨ex,Ja,h',E',h1,h2,h3,h4.trans hd,c',h5,h6,hs.trans h7⟩
theorem WPO.of (hm:C.P.follows .mixedOrders=true)(J:eM C)(hw:WP C ax a E h Q): WPO C ax a E h Q:=by
 intro c A w env hE hr he
 obtain⟨N,ex,I,h',E',h1,h2,h3⟩:=hw env hE
 refine wpIn_mono ((zU hm J N).1 _ _ _ _ h1 none c A w hr he) ?_
 rintro e a' w' ⟨rfl,h4,c',h5,h6,h7⟩
 exact⟨ex,I,h',E',rfl,h2,h3,h4,c',h5,h6,h7⟩
theorem WPO.mono (hw:WPO C ax a E h Q)(J:∀ex E' h',Q ex E' h'→Q' ex E' h'): WPO C ax a E h Q':=by
 intro c A w env hE hr he
 refine wpIn_mono (hw c A w env hE hr he) ?_
 rintro e a' w' ⟨ex,I,h',E',h1,h2,h3,h4⟩
 exact⟨ex,I,h',E',h1,h2,J _ _ _ h3,h4⟩
theorem WPO.seq (hw:WPO C ax a E h fun ex E' h'=>match ex with
  |.normal=>WPO C ax b E' h' Q
  |ex=>Q ex E' h'): WPO C ax (.seq a b) E h Q:=by
 intro c A w env hE hr he
 refine wpIn_seq (wpIn_mono (hw c A w env hE hr he) ?_)
 rintro e J sn ⟨ex,I,h',E',rfl,h2,h3,h4,c₁,h5,h6,h7⟩
 cases ex with
 |normal=>exact wpIn_mono (h3 c₁ J sn I h2 h5 h6) fun e a' w' ho=>ho.trans h4 h7
 |exit i=>exact⟨_,I,h',E',rfl,h2,h3,h4,c₁,h5,h6,h7⟩
 |ret=>exact⟨_,I,h',E',rfl,h2,h3,h4,c₁,h5,h6,h7⟩
theorem WPO.cond {x:Operand}{t:Bool}(J:bj E x=some (.bool t))(hw:WPO C ax (_root_.cond t a b) E h Q): WPO C ax (.cond x a b) E h Q:=by
 intro c A w env I hr he
 obtain⟨e1,_⟩:=wF he (bM I J)
 refine wpIn_cond (t:=t) (by rw[e1];rfl) ?_
 have:=hw c A w env I hr he
 cases t<;>simpa using this
theorem WPO.block (hw:WPO C ax b E h fun ex E' h'=>match ex with
  |.exit j=>_root_.cond (Nat.beq j i) (Q .normal E' h') (Q (.exit j) E' h')
  |ex=>Q ex E' h'): WPO C ax (.block i b) E h Q:=by
 intro c A w env hE hr he
 refine wpIn_block (wpIn_mono (hw c A w env hE hr he) ?_)
 rintro e BW sn ⟨ex,I,h',E',rfl,h2,J,h4,c₁,h5,h6,h7⟩
 cases ex with
 |normal=>simp only[exOf,Exit.inBlock];exact⟨.normal,I,h',E',rfl,h2,J,h4,c₁,h5,h6,h7⟩
 |exit j =>
  by_cases hj:j=i
  ·simp only[sO hj,ah] at J
   simp only[exOf,Exit.inBlock,hj,cQ]
   exact⟨.normal,I,h',E',rfl,h2,J,h4,c₁,h5,h6,h7⟩
  ·simp only[fF hj,aX] at J
   simp only[exOf,Exit.inBlock,hj,fA]
   exact⟨.exit j,I,h',E',rfl,h2,J,h4,c₁,h5,h6,h7⟩
 |ret=>simp only[exOf,Exit.inBlock];exact⟨.ret,I,h',E',rfl,h2,J,h4,c₁,h5,h6,h7⟩
theorem WPO.loop (J:Nat→List (Nat×V)→H→Prop)(hJ:∀j E h,J j E h→WPO C ax b E h fun ex E' h'=>match ex with
  |.normal=>∃i,i<j∧J i E' h'
  |ex=>Q ex E' h')(h0:J j E h): WPO C ax (.loop b) E h Q:=by
 have key:∀m j E h,j<m→J j E h→∀(c:Ctx) (A:Act) (w:World) (env:Env) (R:Exit→Act→World→Prop),iM env E→Rel c h w→dG c env ax A →
   (∀e a' w',I_ ax Q c A w e a' w'→R e a' w')→Code.roundsIn (Fr none) 0 C.P b R m A w:=by
  intro m
  induction m with
  |zero=>intro j E h hj;omega
  |succ m ih =>
   intro j E h hj hJj c A w env R hE hr he hR
   rw[roundsIn_succ]
   refine wpIn_mono (hJ j E h hJj c A w env hE hr he) ?_
   rintro e BW sn ⟨ex,I,h',E',rfl,h2,h3,h4,c₁,h5,h6,h7⟩
   cases ex with
   |normal =>
    obtain⟨i,hi,h3⟩:=h3
    exact ih i E' h' (by omega) h3 c₁ BW sn I R h2 h5 h6 fun e a' w' ho=>hR _ _ _ (ho.trans h4 h7)
   |exit i=>exact hR _ _ _ ⟨_,I,h',E',rfl,h2,h3,h4,c₁,h5,h6,h7⟩
   |ret=>exact hR _ _ _ ⟨_,I,h',E',rfl,h2,h3,h4,c₁,h5,h6,h7⟩
 intro c A w env hE hr he
 exact wpIn_loop_rounds (j+1) (key (j+1) j E h (by omega) h0 c A w env _ hE hr he fun _ _ _ ho=>ho)
theorem Qx {β:Type}{f:α→Option (List β)}{p:β→Prop}: ∀ {L:List α},(∀q∈L,∃s,f q=some [s]∧p s)→∃R,flatM f L=some R∧∀s∈R,p s:=by
 intro L
 induction L with
 |nil=>intro _;exact⟨[],rfl,fun s hs=>by cases hs⟩
 |cons q L ih =>
  intro J
  obtain⟨R,h1,h2⟩:=ih fun q I=>J q (bW _ I)
  obtain⟨s,e1,e2⟩:=J q bX
  refine⟨s::R,?_,fun s' hs => ?_⟩
  ·simp only[flatM,e1,h1,iS,dU]
  ·rcases List.mem_cons.1 hs with rfl|hs
   ·exact e2
   ·exact h2 s' hs
theorem WPO.next {I J:Oper}{x:Operand}{nE Fv:Nat}(hm:C.P.follows .mixedOrders=true)(hT:eM C)(acX:I.guard=none)(acY:J.guard=none)(acZ:I.op=.next x false)(aex:I.dst=some nE)
 (ZX:J.op=.extract y 0)(hy:y=.tmp nE)(aey:J.dst=some Fv)(aaR:Nat.blt nE ax=true)(Yr:Nat.blt Fv ax=true)(hx:bj E x=some (.ptr r 0))(hL:nextAll h r=some L)
 (hq:∀q∈L,∃t l,q.1=.aQ (t::l)∧Q .normal ((Fv,t)::(nE,q.1)::E) q.2): WPO C ax (.region id #[I,J] false) E h Q:=by
 intro c A w env hE hr he
 subst hy
 have hS:=(zU (C:=C) hm hT 0).1
 refine wpIn_region ?_
 rw[ER,←A6]
 have ni:∃R,opsAll C (ev C 0) (#[I,J]:Array Oper).toList (#[I,J]:Array Oper).toList ⟨env,ax,h⟩=some R∧∀s∈R,∃E',iM s.env E'∧s.ax=ax∧Q .normal E' s.h:=by
  have e1:∀uq:Env,wantedV [I,J] uq I=true:=fun uq=>by simp only[wantedV,acX]
  have e2:∀uq:Env,wantedV [I,J] uq J=true:=fun uq=>by simp only[wantedV,acY]
  have mQ:=bM hE hx
  simp only[opsAll,e1,e2,ah,opAll,acZ,mQ,fJ,hL]
  refine Qx fun q BZ => ?_
  obtain⟨t,l,k1,k2⟩:=hq q BZ
  refine⟨⟨(env.set nE (some q.1)).set Fv (some t),ax,q.2⟩,?_,_,(hE.set nE q.1).set Fv t,rfl,k2⟩
  have hg:evO (T.set env nE (some (V.aQ (t::l)))) (.tmp nE)=some (.aQ (t::l)):=by simp only[evO,Env.v,bh,cQ]
  simp only[St.put,aex,aaR,ah,ZX,evOp,k1,hg,nth,fJ,bF,aey,Yr,flatM,eZ]
 obtain⟨R,ni,h2⟩:=ni
 refine PX hS hT _ 0 ⟨env,ax,h⟩ R c A w (fun j=>by rw[fy,lX]) ni hr he ?_
 intro s' Ca c' a' w' r1 r2 r3 r4
 obtain⟨E',e1,e2,e3⟩:=h2 s' Ca
 exact⟨.normal,s'.env,s'.h,E',rfl,e1,e3,r4,c',r1,by rw[e2] at r2;exact r2,r3⟩
theorem fe.D6 {f:FuncId}{fn:Func}{code:Code}{args:List V}{v:V}{dz:H}(hf:C.P.funcs[f]?=some fn)(hb:fn.body=some code)(hn:args.length≤fn.ntmps)
 (hw:WPO C fn.ntmps code (argE args 0) h fun ex E' h'=>(match ex with|.exit _=>False|_=>True)∧resLE C.P E' h' fn.results.toList=some v∧dz.next=h'.next∧∀id o,T.get dz.tr id=some o→T.get h'.tr id=some o){c:Ctx}{w:World}(hr:Rel c h w)(ha:∀x∈args,wf c x): fe C.P f args c w v dz:=by
 have uo:=jt (c:=c) hn ha
 have Pk:=hw c _ w _ (tV args) hr uo
 unfold fe
 refine calls_of_wp hf hb (wpIn_wide.1 (wpIn_mono Pk ?_))
 rintro e a' w' ⟨ex,Ja,h',E',rfl,fE,⟨hx,I,qB,hle⟩,hd,c',r1,r2,r3⟩
 have fin:a'.defers=[]∧∃x,(results fn a'.tmps).run C.P w'=.ok x w'∧∃sW,Ending.returned x=.returned (conc sW v)∧wf sW v∧Rel sW dz w'∧cC c w sW w':=by
  refine⟨hd,?_⟩
  unfold resLE at I
  cases Dj:mapO (resE C.P E' h') fn.results.toList with
  |none=>simp[Dj] at I
  |some vs =>
   rw[Dj] at I
   have Gi:=wR (P:=C.P) (s:=⟨Ja,fn.ntmps,h'⟩) fE Dj
   obtain⟨t1,t2⟩:=ob (s:=⟨Ja,fn.ntmps,h'⟩) r1 r2 Gi
   refine⟨_,t1,c',?_⟩
   have J:=r1.aa4 qB hle
   match vs,I with
   |[],I =>
    simp at I
    subst I
    refine⟨?_,by simp[wf,fL],J,r3⟩
    simp[conc,concL]
   |[x],I =>
    simp at I
    subst I
    exact⟨by simp,t2 _ (by simp),J,r3⟩
   |x::y::l,I =>
    simp at I
    subst I
    refine⟨?_,by simp only[wf,iC];exact t2,J,r3⟩
    rw[dif_neg (by simp)]
    simp[conc,fK,concL]
 cases ex with
 |normal=>simpa[bodyPost,exOf] using fin
 |exit i=>exact hx.elim
 |ret=>simpa[bodyPost,exOf] using fin
end
end Go.Proofs.YtiojppeahfoiaaaGreat.Am
namespace Go.Proofs.YtiojppeahfoiaaaGreat.Am
open Go
variable {X:aI} {C:ep} {δ:Dk} {ε:bA} {es:cx} {Q:Ex→List (Nat×V)→H→Prop} {f:Fm} {h h₁ h':H} {κ:IntKind} {μ:Lg} {E:List (Nat×V)} {L:List (V×H)} {S:List aI} {l b data seen:List Nat} {cs post:List V} {g n k s i size aF a d z p6 r id off q j tx pv nx j1 j2 p1 cZ c bk clock im N:Nat} {o:Oper} {y:Operand} {π:Pl} {P:Program} {α:Type} {t e:TypeId} {x bv dt wh di:V}
theorem oo (l:List Nat)(b x:Nat): inL (l++[b]) x=(inL l x||Nat.beq b x):=by
 induction l with
 |nil=>simp only[dU,inL,Bd];cases Nat.beq b x<;>rfl
 |cons y l I=>simp only[iS,inL,I];cases Nat.beq y x<;>simp
theorem Qy : ∀ {l:List (V×V×Nat)} {e:V×V×Nat},e∈leftV seen l→e∈l∧inL seen e.2.2=false:=by
 intro l
 induction l with
 |nil=>intro e h;cases h
 |cons y l I =>
  intro e h
  simp only[leftV] at h
  cases J:inL seen y.2.2 with
  |true=>rw[J,ah] at h;exact⟨bW _ (I h).1,(I h).2⟩
  |false =>
   rw[J,aX] at h
   rcases List.mem_cons.1 h with rfl|h
   ·exact⟨bX,J⟩
   ·exact⟨bW _ (I h).1,(I h).2⟩
theorem Qz : ∀ {l:List (V×V×Nat)},leftV seen l=[]→∀e∈l,inL seen e.2.2=true:=by
 intro l
 induction l with
 |nil=>intro _ e he;cases he
 |cons y l J =>
  intro h e he
  simp only[leftV] at h
  cases I:inL seen y.2.2 with
  |false=>rw[I,aX] at h;cases h
  |true =>
   rw[I,ah] at h
   rcases List.mem_cons.1 he with rfl|he
   ·exact I
   ·exact J h e he
theorem Jb {b:Nat}: ∀ {l:List (V×V×Nat)},(leftV (seen++[b]) l).length≤(leftV seen l).length:=by
 intro l
 induction l with
 |nil=>exact aV _
 |cons y l I =>
  simp only[leftV,oo]
  cases inL seen y.2.2<;>cases Nat.beq b y.2.2<;>simp<;>omega
theorem TF : ∀ {l:List (V×V×Nat)} {e:V×V×Nat},e∈leftV seen l→(leftV (seen++[e.2.2]) l).length<(leftV seen l).length:=by
 intro l
 induction l with
 |nil=>intro e h;cases h
 |cons y l J =>
  intro e h
  simp only[leftV] at h
  cases I:inL seen y.2.2 with
  |true =>
   rw[I,ah] at h
   simp only[leftV,oo,I,Bool.true_or,ah]
   exact J h
  |false =>
   rw[I,aX] at h
   simp only[leftV,oo,I,Bd,aX]
   rcases List.mem_cons.1 h with rfl|h
   ·rw[fJ,ah]
    have:=Jb (seen:=seen) (b:=e.2.2) (l:=l)
    simp;omega
   ·cases Nat.beq e.2.2 y.2.2
    ·simp only[aX,bz];have:=J h;omega
    ·simp only[ah,bz];have:=Jb (seen:=seen) (b:=e.2.2) (l:=l);omega
theorem QA : ∀ {l:cx} {b:Nat},fV c b l→oK c (l.map (ja κ))=true:=by
 intro l
 induction l with
 |nil=>intro b _;rfl
 |cons e l I =>
  intro b h
  simp only[fu,ja,oK]
  rw[ig.2 h.2.1,ah]
  exact I h.2.2
theorem K4 : ∀ {l:cx} {b:Nat},fV c b l→bornRise b (l.map (ja κ))=true:=by
 intro l
 induction l with
 |nil=>intro b _;rfl
 |cons e l I =>
  intro b h
  simp only[fu,ja,bornRise]
  rw[aL.2 h.1,ah]
  exact I h.2.2
theorem uP : ∀ {l:cx} {b:Nat},fV c b l→∀e∈l,b≤e.2.2:=by
 intro l
 induction l with
 |nil=>intro b _ e he;cases he
 |cons y l I =>
  intro b h e he
  rcases List.mem_cons.1 he with rfl|he
  ·exact h.1
  ·have:=I h.2.2 e he;have:=h.1;omega
theorem Od : ∀ {l:cx} {b:Nat} {e:Int×V×Nat},fV c b l→e∈l→q_ e.2.2 (l.map (ja κ))=some (ja κ e):=by
 intro l
 induction l with
 |nil=>intro b e _ he;cases he
 |cons y l I =>
  intro b e h he
  simp only[fu,ja,q_]
  rcases List.mem_cons.1 he with rfl|he
  ·show cond (Nat.beq e.2.2 e.2.2) _ _=_
   rw[fJ,ah]
  ·have:=uP h.2.2 e he
   show cond (Nat.beq y.2.2 e.2.2) _ _=_
   rw[fF (by omega),aX]
   exact I h.2.2 he
theorem QB : ∀(l:List Nat) (b:Nat),lastN (l++[b])=some b:=by
 intro l b
 induction l with
 |nil=>rfl
 |cons x l I =>
  cases l with
  |nil=>rfl
  |cons y l=>simpa[lastN] using I
section
variable {since b:Nat}
theorem Jc {e:Int×V×Nat}(J:T.get h.tr r=some (.iter bk since clock (seen++[e.2.2])))(hm:T.get h.tr bk=some (.map (es.map (ja κ)) clock))(I:fV clock 0 es)(he:e∈es):
  r9 h (.ptr r 0)=some (.aQ [.int κ e.1,e.2.1]):=by
 simp only[r9,fJ,ah,J,hm,K4 I,iT,QB,Od I he]
 rfl
theorem next_at (I:T.get h.tr r=some (.iter bk since clock seen))(hs:since≤clock)(hm:T.get h.tr bk=some (.map (es.map (ja κ)) clock))(J:fV since 0 es):
  nextAll h r=some (match leftV seen (es.map (ja κ)) with
   |[]=>[(.aQ [.bool false],h)]
   |l=>l.map fun e=>(.aQ [.bool true,e.1,e.2.1],h.put r (some (.iter bk since clock (seen++[e.2.2]))))):=by
 simp only[nextAll,I,hm,QA J,aL.2 hs,iT,ah]
 cases leftV seen (es.map (ja κ))<;>rfl
theorem Jd (hg:T.get h.tr r=some (.iter bk since clock seen))(hs:since≤clock)(hm:T.get h.tr bk=some (.map (es.map (ja κ)) clock))(hb:fV since 0 es)(hL:nextAll h r=some L):
  ∀q∈L,(q=(.aQ [.bool false],h)∧∀e∈es,inL seen e.2.2=true) ∨
   ∃e∈es,inL seen e.2.2=false∧(leftV (seen++[e.2.2]) (es.map (ja κ))).length<(leftV seen (es.map (ja κ))).length∧q=(.aQ [.bool true,.int κ e.1,e.2.1],h.put r (some (.iter bk since clock (seen++[e.2.2])))):=by
 rw[next_at hg hs hm hb] at hL
 simp only[aB] at hL
 subst hL
 intro q hq
 cases J:leftV seen (es.map (ja κ)) with
 |nil =>
  rw[J] at hq
  refine .inl ⟨List.mem_singleton.1 hq,fun e he => ?_⟩
  exact Qz J (ja κ e) (tH he)
 |cons y l =>
  rw[J] at hq
  obtain⟨e',I,rfl⟩:=List.mem_map.1 hq
  rw[←J] at I
  obtain⟨h1,h2⟩:=Qy I
  obtain⟨e,he,rfl⟩:=List.mem_map.1 h1
  have h3:=TF I
  rw[J] at h3
  exact .inr ⟨e,he,h2,h3,rfl⟩
end
open Classical in
noncomputable def iQ (P:Program)(f:FuncId)(jF:List V→H→V×H→Prop)(args:List V)(h:H): Option (V×H) :=
 if I:∃r,jF args h r∧∀(c:Ctx) (w:World),Rel c h w→(∀x∈args,wf c x)→fe P f args c w r.1 r.2 then some I.choose else none
theorem QC {f : FuncId} {jF : List V → H → V × H → Prop} (J : ∃ fn, P.funcs[f]? = some fn ∧ fn.body.isSome = true ∧ (fn.name == "runtime.NumGoroutine") = false) : LG P f (iQ P f jF) := by
 refine .inl ⟨J, fun args σ v dz I c w h hw => ?_⟩
 unfold iQ at I
 split at I
 ·rename_i hx
  have := hx.choose_spec.2 c w h hw
  injection I with I
  rw [I] at this
  exact this
 ·cases I
theorem qj {P:Program}{f:FuncId}{jF:List V→H→V×H→Prop}{args:List V}{h:H}{r:V×H}(J:jF args h r)(h2:∀(c:Ctx) (w:World),Rel c h w→(∀x∈args,wf c x)→fe P f args c w r.1 r.2):
  ∃r,iQ P f jF args h=some r∧jF args h r:=by
 have I:∃r,jF args h r∧∀(c:Ctx) (w:World),Rel c h w→(∀x∈args,wf c x)→fe P f args c w r.1 r.2:=⟨r,J,h2⟩
 refine⟨I.choose,?_,I.choose_spec.1⟩
 unfold iQ
 rw[dif_pos I]
noncomputable def qF (f:Nat): Option (List V→H→Option (V×H)) :=
 cond (Nat.beq f 106) (some (toldSorted BF)) (cond (Nat.beq f 217) (some toldMore) none)
noncomputable abbrev CB : ep:=⟨Tryz.prog,qF⟩
theorem fT : Tryz.prog.follows .mixedOrders=true:=by kernel_rfl
theorem eB : eM CB:=by
 intro f g I
 simp only[CB,qF] at I ⊢
 by_cases h1:f=106
 ·subst h1
  rw[sO rfl,ah] at I
  simp only[aB] at I
  subst I
  exact .inl ⟨⟨_,Tryz.func106,rfl,by decide⟩,fun args σ v dz J c w h _=>Hv br Qe J h⟩
 ·rw[fF h1,aX] at I
  by_cases h2:f=217
  ·subst h2
   rw[sO rfl,ah] at I
   simp only[aB] at I
   subst I
   exact .inl ⟨⟨_,Dq,rfl,by decide⟩,fun args σ v dz J c w h hw=>KS (C:=CB) rfl fT J h hw⟩
  ·rw[fF h2,aX] at I
   cases I
theorem W.base : W qF:=by
 refine⟨fun f I => ?_,rfl,rfl⟩
 have J:f≠106:=fun e=>by subst e;revert I;decide
 have h2:f≠217:=fun e=>by subst e;revert I;decide
 simp only[qF,fF J,fF h2,aX]
theorem gJ.det {C:ep}{f:FuncId}{args:List V}{h:H}{v v':V}{h₁ I:H}(a:gJ C f args h v h₁)(b:gJ C f args h v' I): v=v'∧h₁=I:=by
 obtain⟨N,hN⟩:=a
 obtain⟨M,hM⟩:=b
 have e1:=mH (dO (nZ N M)) hN
 have J:=mH (dO (nY N M)) hM
 rw[e1] at J
 simp only[aB,bC] at J
 exact J
section
variable {st:Bool} {v:V}
theorem Sat.ZY (s:Sat h S)(hk:getA S k=some (pt id (.cells n cs false)))(hs:bB P t=some 1)(hl:cs.length=n)(ho:off<n)(hv:v.cells=[v])(I:storable v=true):
  f_ P h t (.ptr id off) v=some (h.put id (some (.cells n (cs.set off v) false))):=by
 simp only[f_,hs,hv,bz,cG,iU,jd,I,wz]
 rw[show Nat.beq (0+1) 1=true from rfl,ah]
 simp only[wrN,s.row hk,bz,cG]
 rw[aL.2 (show off+(0+1)≤n by omega),ah]
 congr 3
 rw[EJ,aC (by omega)]
 cases J:(Nat.beq off 0&&Nat.beq (0+1) n) with
 |true =>
  simp only[bH,beq_iff] at J
  obtain⟨rfl,hn⟩:=J
  rw[ah]
  have:cs.drop (0+1)=[]:=lW (by omega)
  simp[this]
 |false=>rw[aX];rfl
end
theorem OpR.entry {x:Operand}{v r:V}(I:o.op=.entry x)(J:bj E x=some v)(hf:r9 h v=some r): OpR C E h o fun w h'=>w=r∧h'=h :=
 ⟨r,h,⟨rfl,rfl⟩,fun env hE=>⟨0,by simp only[evOp,I,bM hE J,hf,bF]⟩⟩
theorem OpR.range {x:Operand}{v r:V}(I:o.op=.range t x)(J:bj E x=some v)(hf:rangeV C.P h t v=some (r,h₁)): OpR C E h o fun w h'=>w=r∧h'=h₁ :=
 ⟨r,h₁,⟨rfl,rfl⟩,fun env hE=>⟨0,by simp only[evOp,I,bM hE J,hf]⟩⟩
def doneRow (seen:List Nat): cx→List V→List V
 |[],row=>row
 |e::l,row=>doneRow seen l (cond (inL seen e.2.2) (row.set e.1.toNat e.2.1) row)
def nK : cx→List V→List V
 |[],row=>row
 |e::l,row=>nK l (row.set e.1.toNat e.2.1)
theorem K5 : ∀ {l:cx} {row:List V},(∀e∈l,inL seen e.2.2=true)→doneRow seen l row=nK l row:=by
 intro l
 induction l with
 |nil=>intro row _;rfl
 |cons e l J =>
  intro row h
  simp only[doneRow,nK,h e bX,ah]
  exact J fun e' I=>h e' (bW _ I)
theorem K6 : ∀ {l:cx} {row:List V},doneRow [] l row=row:=by
 intro l
 induction l with
 |nil=>intro row;rfl
 |cons e l I=>intro row;simp only[doneRow,inL,aX];exact I
theorem K7 : ∀ {l:cx} {row:List V},(doneRow seen l row).length=row.length:=by
 intro l
 induction l with
 |nil=>intro row;rfl
 |cons e l I=>intro row;simp only[doneRow];rw[I];cases inL seen e.2.2<;>simp
theorem K8 {v:V}: ∀ {l:cx} {row:List V},(∀e∈l,e.1.toNat≠i)→doneRow seen l (row.set i v)=(doneRow seen l row).set i v:=by
 intro l
 induction l with
 |nil=>intro row _;rfl
 |cons e l ih =>
  intro row h
  simp only[doneRow]
  have h1:=h e bX
  cases inL seen e.2.2 with
  |true=>rw[ah,ah,List.set_comm _ _ (l9 h1)];exact ih fun J I=>h J (bW _ I)
  |false=>exact ih fun J I=>h J (bW _ I)
theorem Hy {b:Nat}: ∀ {l:cx} {row:List V},(∀e∈l,e.2.2≠b)→doneRow (seen++[b]) l row=doneRow seen l row:=by
 intro l
 induction l with
 |nil=>intro row _;rfl
 |cons e l J =>
  intro row h
  simp only[doneRow,oo,fF (l9 (h e bX)),Bool.or_false]
  exact J fun e' I=>h e' (bW _ I)
theorem Je : ∀ {l:cx} {b:Nat} {row:List V} {e:Int×V×Nat},fV c b l→(l.map fun e=>e.1.toNat).Nodup→e∈l→inL seen e.2.2=false →
  doneRow (seen++[e.2.2]) l row=(doneRow seen l row).set e.1.toNat e.2.1:=by
 intro l
 induction l with
 |nil=>intro b row e _ _ he;cases he
 |cons y l ih =>
  intro b row e J hn he hs
  simp only[fu,Bb] at hn
  rcases List.mem_cons.1 he with rfl|he
  ·simp only[doneRow,oo,hs,fJ,Bool.or_true,ah,aX]
   rw[Hy fun e' I=>by have:=uP J.2.2 e' I;omega]
   exact K8 fun e' I hq=>hn.1 (hq ▸ tH (f:=fun e:Int×V×Nat=>e.1.toNat) I)
  ·have:=uP J.2.2 e he
   simp only[doneRow,oo,fF (show e.2.2≠y.2.2 by omega),Bool.or_false]
   exact ih J.2.2 hn.2 he hs
def laidP : List (Int×List Nat)→List (Option (List Nat))→List (Option (List Nat))
 |[],m=>m
 |e::l,m=>laidP l (m.set e.1.toNat (some e.2))
theorem vu : ∀ {l:List (Int×List Nat)} {m:List (Option (List Nat))},(laidP l m).length=m.length:=by
 intro l
 induction l with
 |nil=>intro row;rfl
 |cons e l I=>intro row;simp only[laidP];rw[I];simp
theorem K9 {a b:PM}: ∀ {es:cx} {m:List (Int×List Nat)} {row:List V} {pg:List (Option (List Nat))},(fC (fun v x=>.cD v x) es m).p a b→(∀e∈m,e.2≠[])→(each kY row pg).p a b→(each kY (nK es row) (laidP m pg)).p a b:=by
 intro es
 induction es with
 |nil=>intro m row pg h _ hr;cases m with
  |nil=>exact hr
  |cons x m=>exact h.elim
 |cons e es ih=>intro m row pg h I hr;cases m with
  |nil=>exact h.elim
  |cons x m =>
   obtain⟨⟨h1,h2⟩,h3⟩:=h
   simp only[nK,laidP]
   have hk:e.1=x.1:=h1
   refine ih h3 (fun e he=>I e (bW _ he)) ?_
   rw[hk]
   refine CO hr ⟨?_,h2⟩
   rintro hv
   have J:ViewM b e.2.1 x.2:=h2
   rw[hv] at J
   rcases J.2 with⟨_,h4⟩|h4
   ·exact I x bX h4
   ·obtain⟨_,_,_,_,_,_,h4,_⟩:=h4
    cases h4
def Dk.sync (δ:Dk): Dk:={ δ with aq:=laidP δ.now δ.aq,waiting:=[],now:=[] }
section
variable {told:cJ} {p:Nat} {v:V} {m:List Fm}
noncomputable def D7 (h:H)(p:Nat)(cs:List V)(im N:Nat)(row:List V)(bk:Nat)(es:cx)(clock:Nat): H :=
 ((((h.new (.iter bk clock clock [])).put im (some (.cells N (nK es row) false))).put p (some (.cells 12 (cs.set 2 .aY) false))).put bk (some (.map [] clock))).put h.next none
def FN (args:List V)(h:H)(r:V×H): Prop:=∃p cs,args=[.ptr p 0]∧T.get h.tr p=some (.cells 12 cs false) ∧
 ((nth cs 9=some (.bool true)∧r=(.int .i64 9,h))∨(nth cs 9=some (.bool false)∧∃v1 I,gJ CB 188 [.ptr p 0] h v1 I ∧
  ((v1=.bool false∧r=(.int .i64 9,I))∨(v1=.bool true∧∃cs im N row bk es clock,T.get I.tr p=some (.cells 12 cs false)∧nth cs 1=some (.sl im 0 N (.exact N))∧nth cs 3=some (.map bk) ∧
   T.get I.tr im=some (.cells N row false)∧T.get I.tr bk=some (.map (es.map qQ) clock)∧r=(.int .i64 0,D7 I p cs im N row bk es clock)))))
structure FO (h h':H)(X:List Nat): Prop where
 next:h'.next=h.next
 get:∀i,i∉X→T.get h'.tr i=T.get h.tr i
theorem FO.put {X:List Nat}(s:FO h h' X){o:Option Obj}(hi:i∈X): FO h (h'.put i o) X :=
 ⟨s.next,fun j I=>by rw[dN,ak (fun(e:j=i)=>I (e ▸ hi))];exact s.get j I⟩
theorem GO {f:V→α→aI}{a b:PM}: ∀ {l:cx} {m:List (Int×α)},(fC f l m).p a b→∀e∈l,∃x,(e.1,x)∈m∧(f e.2.1 x).p a b:=by
 intro l
 induction l with
 |nil=>intro m _ e he;cases he
 |cons y l I=>intro m h e he;cases m with
  |nil=>exact h.elim
  |cons x m =>
   obtain⟨⟨J,h2⟩,h3⟩:=h
   rcases List.mem_cons.1 he with rfl|he
   ·exact⟨x.2,by rw[show e.1=x.1 from J];exact bX,h2⟩
   ·obtain⟨z,k1,k2⟩:=I h3 e he
    exact⟨z,bW _ k1,k2⟩
noncomputable def syA : Code:=cU [0] ((Tryz.f117.body).getD .skip)
noncomputable def syB : Code:=cU [1,0] ((Tryz.f117.body).getD .skip)
noncomputable def syC : Code:=cU [1,1,0,0] ((Tryz.f117.body).getD .skip)
noncomputable def ZZ : Code:=cU [1,1,0,1,0,0,0] ((Tryz.f117.body).getD .skip)
noncomputable def syD : Code:=cU [1,1,0,1,0,0,1,1,0] ((Tryz.f117.body).getD .skip)
noncomputable def syE : Code:=cU [1,1,1] ((Tryz.f117.body).getD .skip)
theorem CS : Tryz.f117.body=some (.seq syA (.seq syB (.seq (.seq syC (.block 0 (.loop (.seq ZZ (.seq (.cond (.tmp 20) .skip (.exit 0)) (.block 1 syD)))))) syE))):=rfl
theorem XA : ∃id I J,ZZ=.region id #[I,J] false∧I.guard=none∧J.guard=none∧I.op=.next (.tmp 18) false∧I.dst=some 19∧J.op=.extract (.tmp 19) 0∧J.dst=some 20:=⟨_,_,_,rfl,rfl,rfl,rfl,rfl,rfl,rfl⟩
def syJ (h₀:H)(p it im N bk clock:Nat)(cs row:List V)(es:cx)(S:List aI)(j:Nat)(E:List (Nat×V))(h:H): Prop :=
 ∃seen,Has E [(0,.ptr p 0),(18,.ptr it 0)]∧j=(leftV seen (es.map qQ)).length∧FO h₀ h [it,im] ∧
  Sat h (pt it (.iter bk clock clock seen)::pt p (.cells 12 cs false)::pt im (.cells N (doneRow seen es row) false)::nH bk es clock::S)
theorem QD {h₀:H}{it:Nat}{row:List V}(zH:nth cs 1=some (.sl im 0 N (.exact N)))(hl:row.length=N)(J:fV clock 0 es)(hn:(es.map fun e=>e.1.toNat).Nodup)
 (hk:∀e∈es,0≤e.1∧e.1<N)(hv:∀e∈es,e.2.1.cells=[e.2.1]∧storable e.2.1=true)(h0:syJ h₀ p it im N bk clock cs row es S j E h):
  WPO CB 38 (.loop (.seq ZZ (.seq (.cond (.tmp 20) .skip (.exit 0)) (.block 1 syD)))) E h fun ex E' h'=>ex=.exit 0∧Has E' [(0,.ptr p 0)]∧FO h₀ h' [it,im] ∧
   ∃seen,Sat h' (pt it (.iter bk clock clock seen)::pt p (.cells 12 cs false)::pt im (.cells N (nK es row) false)::nH bk es clock::S):=by
 refine WPO.loop (syJ h₀ p it im N bk clock cs row es S) ?_ h0
 rintro j E h ⟨seen,hE,rfl,hs,s⟩
 have g1:=s.row (k:=0) rfl
 have g2:=s.row (k:=3) rfl
 obtain⟨id,Na,KB,q0,q1,q2,q3,q4,q5,q6⟩:=XA
 refine WPO.seq ?_
 rw[q0]
 have hL:=next_at g1 (aV _) g2 J
 refine WPO.next fT eB q1 q2 q3 q4 q5 rfl q6 rfl rfl (r:=it) ?_ hL fun q hq => ?_
 ·exact hE.2.1
 ·rcases Jd g1 (aV _) g2 J hL q hq with⟨rfl,I⟩|⟨e,he,V4,cH,rfl⟩
  ·refine⟨.bool false,[],rfl,?_⟩
   refine WPO.seq (WPO.cond (t:=false) rfl ?_)
   refine WPO.of fT eB (WP.exit ?_)
   refine⟨rfl,⟨hE.1,aa⟩,hs,seen,?_⟩
   rw[←K5 I]
   exact s
  ·refine⟨.bool true,_,rfl,?_⟩
   refine WPO.seq (WPO.cond (t:=true) rfl ?_)
   refine WPO.of fT eB (WP.skip ?_)
   refine WPO.block (WPO.of fT eB ?_)
   have s:=s.put (o':=.iter bk clock clock (seen++[e.2.2])) (k:=0) rfl
   have hs:=hs.put (i:=it) (o:=some (.iter bk clock clock (seen++[e.2.2]))) bX
   generalize h.put it (some (.iter bk clock clock (seen++[e.2.2])))=h' at s hs
   have g1:=s.row (k:=0) rfl
   have g2:=s.row (k:=3) rfl
   refine WP.has (F:=[(0,.ptr p 0),(18,.ptr it 0),(20,.bool true)]) ⟨hE.1,hE.2.1,rfl,aa⟩ (zg rfl (au.any rfl rfl rfl (OpR.entry rfl rfl (Jc g1 g2 J he)) ?_))
   rintro v h ⟨rfl,rfl⟩
   refine zk 8 rfl (zf rfl (m7 _ _) (zl rfl (s.ld (k:=1) rfl rW zH) (zk 2 rfl ?_)))
   obtain⟨k1,k2⟩:=hk e he
   refine zo rfl (c8 (r:=.ptr im e.1.toNat) rfl rfl (by rw[VC,show(decide (0≤e.1)&&decide (e.1<(N:Int)))=true by simp;omega,ah];simp)) ?_
   have e1:=s.ZY (P:=Tryz.prog) (k:=2) (t:=23) (off:=e.1.toNat) rfl gY (by rw[K7];exact hl) (by omega) (hv e he).1 (hv e he).2
   have s1:=s.put (o':=.cells N ((doneRow seen es row).set e.1.toNat e.2.1) false) (k:=2) rfl
   refine au.Vq rfl rfl (wW rfl rfl e1) (zv ?_)
   refine⟨_,cH,seen++[e.2.2],⟨rfl,rfl,aa⟩,rfl,hs.put (by simp),?_⟩
   rw[Je J hn he V4]
   exact s1
theorem TG {row:List V}(hs:FO (h₁.new (.iter bk clock clock [])) h' [h₁.next,im])(hi:T.get h'.tr im=some (.cells N (nK es row) false))(hp:p≠im)(hm:bk≠im):
  (D7 h₁ p cs im N row bk es clock).next=((h'.put p (some (.cells 12 (cs.set 2 .aY) false))).put bk (some (.map [] clock))).next ∧
  ∀id o,T.get (D7 h₁ p cs im N row bk es clock).tr id=some o→T.get ((h'.put p (some (.cells 12 (cs.set 2 .aY) false))).put bk (some (.map [] clock))).tr id=some o:=by
 refine⟨hs.next.symm,fun id o ho => ?_⟩
 unfold D7 at ho
 rw[dN] at ho
 by_cases J:id=h₁.next
 ·rw[aC J] at ho;cases ho
 ·rw[ak J,dN] at ho
  rw[dN]
  by_cases h2:id=bk
  ·rw[aC h2] at ho ⊢;exact ho
  ·rw[ak h2,dN] at ho
   rw[ak h2,dN]
   by_cases h3:id=p
   ·rw[aC h3] at ho ⊢;exact ho
   ·rw[ak h3,dN] at ho
    rw[ak h3]
    by_cases I:id=im
    ·rw[aC I] at ho;rw[I,hi];exact ho
    ·rw[ak I] at ho
     rw[hs.get id (by simp[J,I])]
     exact ho
theorem TH {es:List (V×V×Nat)}{kt et:TypeId}(I:T.get h.tr bk=some (.map es c))(hu:P.underlying t=some (.map kt et)):
  ∃v h₁,builtinV P h .clear #[t] [.map bk]=some (v,h₁)∧(fun(_:V) (h₁:H)=>h₁=h.put bk (some (.map [] c))) v h₁ :=
 ⟨cq,_,by simp only[builtinV,clearV,hu,I];rfl,rfl⟩
set_option maxHeartbeats 1000000 in
theorem QE (s:Sat h (aO p δ::S))(oU:δ.Ok)(hk:∀e∈δ.now,0≤e.1∧e.1<δ.aq.length):
  ∃r,FN [.ptr p 0] h r∧∀(c:Ctx) (w:World),Rel c h w→(∀x∈[V.ptr p 0],wf c x)→fe Tryz.prog 117 [.ptr p 0] c w r.1 r.2:=by
 obtain⟨pg,wt,nw,lg,mk,tn,tl,ops,s1⟩:=bE.1 s
 have gp:=s1.row (k:=0) rfl
 cases hd:δ.dead with
 |true =>
  refine⟨(.int .i64 9,h),⟨p,_,rfl,gp,.inl ⟨by rw[hd];rfl,rfl⟩⟩,fun c w hr ha => ?_⟩
  refine fe.D6 (C:=CB) (args:=[.ptr p 0]) Ak CS (show 1≤Tryz.f117.ntmps by decide) ?_ hr ha
  refine WPO.seq (WPO.of fT eB ?_)
  have s:=s1
  refine zr rfl (za rfl (zv ?_))
  refine WPO.seq (WPO.of fT eB ?_)
  exact zK 4 rfl (zf rfl (j8 _ _) (zt rfl (o_load rfl (s.ld (k:=0) rfl kV rfl)) (hd) (zk 11 rfl (WP.ret ⟨aa,nG rfl,rfl,fun _ _ h=>h⟩))))
 |false =>
  obtain⟨v1,J,Du,hR⟩:=qf W.base s oU.aU
  have I:Call CB 188 [.ptr p 0] h (fun v' h'=>v'=v1∧h'=J):=⟨v1,J,Du,rfl,rfl⟩
  rcases hR with⟨h0,rfl,s2⟩|⟨h0,rfl,s2⟩
  ·refine⟨(.int .i64 9,J),⟨p,_,rfl,gp,.inr ⟨by rw[hd];rfl,_,J,Du,.inl ⟨rfl,rfl⟩⟩⟩,fun c w hr ha => ?_⟩
   refine fe.D6 (C:=CB) (args:=[.ptr p 0]) Ak CS (show 1≤Tryz.f117.ntmps by decide) ?_ hr ha
   refine WPO.seq (WPO.of fT eB ?_)
   have s:=s1
   refine zr rfl (za rfl (zv ?_))
   refine WPO.seq (WPO.of fT eB ?_)
   refine zK 4 rfl (zf rfl (j8 _ _) (zh rfl (o_load rfl (s.ld (k:=0) rfl kV rfl)) (hd) (zk 2 rfl (zc rfl (I) ?_))))
   rintro v h ⟨rfl,rfl⟩
   exact zo rfl (eU rfl rfl) (zk 7 rfl (WP.ret ⟨aa,nG rfl,rfl,fun _ _ h=>h⟩))
  ·obtain⟨pg,wt,nw,lg,mk,tn,tl,ops,s3⟩:=bE.1 s2
   obtain⟨im,row,rfl,s4⟩:=gA.1 (s3.ae [1])
   obtain⟨bk,es,clock,rfl,hb,hn,s5⟩:=jZ.1 (s4.ae [4])
   dsimp only[bringA,getA,aE] at s5
   have s6:=s5.ae [4,2,0,0,0,0]
   dsimp only[bringA,getA,aE] at s6
   have gp1:=s6.row (k:=0) rfl
   have gi:=s6.row (k:=1) rfl
   have gm:=s6.row (k:=2) rfl
   obtain⟨a,b,_,_,q3⟩:=s6.at (k:=3) rfl
   obtain⟨a',b',_,_,q4⟩:=s6.at (k:=4) rfl
   have xO:row.length=δ.dh.aq.length:=rK q4
   have SC:=tA q3
   have Z0:∀e∈es,0≤e.1∧e.1<(δ.dh.aq.length:Int):=fun e he=>by
    obtain⟨x,k1,_⟩:=GO q3 e he
    exact hk _ k1
   have fo:∀e∈es,e.2.1.cells=[e.2.1]∧storable e.2.1=true:=fun e he=>by
    obtain⟨x,_,k2⟩:=GO q3 e he
    have k3:ViewM b e.2.1 x:=k2
    rcases k3.2 with⟨k4|⟨_,k4⟩,_⟩|⟨_,_,_,_,_,_,k4,_⟩
    ·rw[k4];exact⟨rfl,rfl⟩
    ·rw[k4];exact⟨rfl,rfl⟩
    ·rw[k4];exact⟨rfl,rfl⟩
   have ju:(es.map fun e=>e.1.toNat).Nodup:=by
    have J:(es.map (·.1)).Nodup:=by rw[SC];exact hn
    rw[List.nodup_iff_pairwise_ne,List.pairwise_map] at J ⊢
    refine(List.pairwise_iff_forall_sublist.2 fun {x y} Z1 => ?_)
    have h2:=(List.pairwise_iff_forall_sublist.1 J) Z1
    have hx:=(Z0 x (Z1.subset bX)).1
    have hy:=(Z0 y (Z1.subset (bW _ bX))).1
    omega
   refine⟨(.int .i64 0,D7 J p _ im δ.dh.aq.length row bk es clock),⟨p,_,rfl,gp,.inr ⟨by rw[hd];rfl,_,J,Du,.inr ⟨rfl,_,im,_,row,bk,es,clock,gp1,rfl,rfl,gi,gm,rfl⟩⟩⟩,fun c w hr ha => ?_⟩
   refine fe.D6 (C:=CB) (args:=[.ptr p 0]) Ak CS (show 1≤Tryz.f117.ntmps by decide) ?_ hr ha
   refine WPO.seq (WPO.of fT eB ?_)
   have s:=s1
   refine zr rfl (za rfl (zv ?_))
   refine WPO.seq (WPO.of fT eB ?_)
   refine zK 4 rfl (zf rfl (j8 _ _) (zh rfl (o_load rfl (s.ld (k:=0) rfl kV rfl)) (hd) (zk 2 rfl (zc rfl (I) ?_))))
   rintro v h ⟨rfl,rfl⟩
   refine zo rfl (eU rfl rfl) (zp rfl (zv (zj rfl (WP.skip ?_))))
   refine WPO.seq (WPO.seq (WPO.of fT eB ?_))
   have s:=s6
   refine zK 3 rfl (zY s 0 Bu jD rfl (au.any rfl rfl rfl (OpR.range rfl rfl (show rangeV Tryz.prog h 108 (.map bk)=some (.ptr h.next 0,h.new (.iter bk clock clock [])) by simp only[rangeV,kX,gm])) ?_))
   rintro v h' ⟨rfl,rfl⟩
   refine zv ?_
   have s7:=s.new (.iter bk clock clock [])
   refine WPO.block ((QD (row:=row) (es:=es) (S:=_) rfl xO hb ju Z0 fo ⟨[],⟨rfl,rfl,aa⟩,rfl,⟨rfl,fun _ _=>rfl⟩,by rw[K6];exact s7⟩).mono ?_)
   rintro ex E' h' ⟨rfl,fE,hs,seen,s⟩
   refine WPO.of fT eB (WP.has fE ?_)
   have e1:=s.ZY (P:=Tryz.prog) (k:=1) (t:=107) (off:=2) (v:=.aY) rfl VD rfl (by decide) rfl rfl
   have s8:=s.put (o':=.cells 12 (List.set (w9 δ.dh.room (.sl im 0 δ.dh.aq.length (.exact δ.dh.aq.length)) wt (.map bk) lg δ.dh.bu mk δ.dh.aU ops δ.dh.dead tn tl) 2 .aY) false) (k:=1) rfl
   have mP:p≠im:=(s.ae [1,1]).ne
   have hnm:bk≠im:=(s.ae [3,2]).ne
   have gi:=s.row (k:=2) rfl
   have Z2:=TG (p:=p) (cs:=(w9 δ.dh.room (.sl im 0 δ.dh.aq.length (.exact δ.dh.aq.length)) wt (.map bk) lg δ.dh.bu mk δ.dh.aU ops δ.dh.dead tn tl)) hs gi mP hnm
   refine zK 4 rfl (zf rfl (tX _ _) (au.Vq rfl rfl (wW rfl rfl e1) ?_))
   have s:=s8
   have gm8:=s.row (k:=3) rfl
   refine zk 5 rfl (zY s 1 Bu jD rfl (au.gh rfl rfl (OpR.builtin rfl rfl rfl (TH gm8 kX)) ?_))
   rintro v h'' rfl
   exact zk 5 rfl (WP.ret ⟨aa,nG rfl,Z2.1,Z2.2⟩)
end
def abB : V→Bool
 |.agg [_,.bool b]=>b
 |_=>true
section
variable {told:cJ} {p:Nat} {v:V} {m:List Fm}
theorem abC {l:List V}(J:T.get h.tr id=some (.cells n cs false))(hs:bB P t=some l.length)(hl:cs.length=n)(hn:l.length=n)(I:l.all storable=true):
  f_ P h t (.ptr id 0) (.agg l)=some (h.put id (some (.cells n l false))):=by
 grind[f_,V.cells,Nat.beq_refl,wrN,aL]
abbrev Z3 : V:=.fn (.func 119) [] []
end
def QF (args:List V)(h:H)(r:V×H): Prop:=∃(bk:Nat) (es:cx) (clock:Nat),args=[.map bk,Z3]∧T.get h.tr bk=some (.map (es.map qQ) clock) ∧
 r=(.aQ [],⟨h.next+1+2*es.length,(h.put bk (some (.map ((es.filter (fun e=>abB e.2.1)).map qQ) clock))).tr⟩)
structure W2 (told:cJ): Prop where
 w:W told
 sync:told 117=some (iQ Tryz.prog 117 FN)
 del:told 118=some (iQ Tryz.prog 118 QF)
theorem XB : ∀ {l m:cx},l.map qQ=m.map qQ→l=m:=by
 intro l
 induction l with
 |nil=>intro m h;cases m with
  |nil=>rfl
  |cons _ _=>cases h
 |cons e l J=>intro m h;cases m with
  |nil=>cases h
  |cons x m =>
   simp only[fu,E8] at h
   obtain⟨I,h2⟩:=h
   rw[J h2]
   obtain⟨e1,e2⟩:=e
   obtain⟨x1,x2⟩:=x
   simp only[qQ,ja,bC,V.int.injEq,true_and] at I
   rw[I.1,I.2]
def Dk.iR (δ:Dk): Int×Dk:=if δ.dead=true then(9,δ) else if δ.aU=0 then(9,δ.die) else(0,δ.dh.sync)
section
variable {told:cJ} {p:Nat} {v:V} {m:List (Int×(Nat×Bool))}
theorem rN {a b:Obj}{id:Nat}(J:T.get h.tr id=some a)(I:T.get h.tr id=some b): a=b:=by rw[J] at I;exact cg I
set_option maxHeartbeats 1000000 in
theorem XC (hT:W2 told)(s:Sat h (aO p δ::S))(oU:δ.Ok)(hk:∀e∈δ.now,0≤e.1∧e.1<δ.aq.length): Call ⟨Tryz.prog,told⟩ 117 [.ptr p 0] h fun v h'=>v=.int .i64 δ.iR.1∧Sat h' (aO p δ.iR.2::S):=by
 obtain⟨r,h1,h2⟩:=QE s oU hk
 obtain⟨r,h3,h4⟩:=qj h1 h2
 refine⟨r.1,r.2,gJ.told hT.sync Ak rfl h3,?_⟩
 clear h1 h2 h3
 obtain⟨p',cs,e1,gp',h4⟩:=h4
 injection e1 with e1 _
 injection e1 with e1 _
 subst e1
 obtain⟨pg,wt,nw,lg,mk,tn,tl,ops,s1⟩:=bE.1 s
 have gp:=s1.row (k:=0) rfl
 have e2:=rN gp gp'
 injection e2 with _ e2 _
 subst e2
 rcases h4 with⟨hd,rfl⟩|⟨hd,v1,h1,Du,h4⟩
 ·have hd:δ.dead=true:=by injection (cg hd)
  simp only[Dk.iR,aC hd]
  exact⟨aa,s⟩
 ·have hd:δ.dead=false:=by injection (cg hd)
  obtain⟨v2,h2,ac0,hR⟩:=qf W.base s oU.aU
  obtain⟨rfl,rfl⟩:=gJ.det Du ac0
  simp only[Dk.iR,hd,j5,fA]
  rcases hR with⟨h0,rfl,s2⟩|⟨h0,rfl,s2⟩
  ·rcases h4 with⟨_,rfl⟩|⟨hv,_⟩
   ·rw[aC h0];exact⟨rfl,s2⟩
   ·cases hv
  ·rcases h4 with⟨hv,_⟩|⟨_,cs,im,N,row,bk,es,clock,g0,c1,c3,g1,g2,rfl⟩
   ·cases hv
   ·rw[ak h0]
    refine⟨rfl,?_⟩
    obtain⟨pg,wt,nw,lg,mk,tn,tl,ops,s3⟩:=bE.1 s2
    obtain⟨im',row',rfl,s4⟩:=gA.1 (s3.ae [1])
    obtain⟨J,es',I,rfl,hb,hn,s5⟩:=jZ.1 (s4.ae [4])
    have s6:=s5.ae [4,2,0,0,0,0]
    have e3:=rN (s6.row (k:=0) rfl) g0
    injection e3 with _ e3 _
    subst e3
    have c1:=cg c1
    injection c1 with c1 _ c2 _
    subst c1;subst c2
    have c3:=cg c3
    injection c3 with c3
    subst c3
    have e4:=rN (s6.row (k:=1) rfl) g1
    injection e4 with _ e4 _
    subst e4
    have e5:=rN (s6.row (k:=2) rfl) g2
    injection e5 with e5 e6
    have e5:=XB e5
    subst e5;subst e6
    have s7:=s6.new (.iter J I I [])
    have s8:=s7.put (o':=.cells δ.dh.aq.length (nK es' row') false) (k:=2) rfl
    have s9:=s8.put (o':=.cells 12 (List.set (w9 δ.dh.room (.sl im' 0 δ.dh.aq.length (.exact δ.dh.aq.length)) wt (.map J) lg δ.dh.bu mk δ.dh.aU ops δ.dh.dead tn tl) 2 .aY) false) (k:=1) rfl
    have s10:=s9.put (o':=.map [] I) (k:=3) rfl
    have s11:=s10.kill
    have s12:Sat _ (each kY row' δ.dh.aq::fC (fun v b=>.cD v b) es' δ.dh.now::_):=s11.ae [4,3]
    have s13:=s12.two (C:=each kY (nK es' row') (laidP δ.dh.now δ.dh.aq)) (bg.each bg.kY _ _) (bg.IJ (fun _ _=>bg.cD _ _) _ _) fun a b q1 q2=>K9 q2 (fun e he=>by
     have:=oU.now e he
     rintro hq;rw[hq] at this;simp at this) q1
    have s14:=(jZ (f:=fun v b=>.cD v b) (v:=.map J) (m:=([]:List (Int×List Nat)))).2 ⟨J,[],I,rfl,aa,lZ,((s13.ae [3]).fB aa).ae [1,0]⟩
    have hlen:(laidP δ.dh.now δ.dh.aq).length=δ.dh.aq.length:=vu
    have s15:=gA.2 ⟨im',nK es' row',rfl,by rw[hlen];exact s14.ae [3,1]⟩
    rw[hlen] at s15
    have s16:=(mF (v:=.aY) (m:=[])).2 ⟨[],((s15.del 3).fB aa).kg⟩
    exact bE.2 ⟨_,_,_,_,_,_,_,ops,s16.ae [3,1,0,0]⟩
end
end Go.Proofs.YtiojppeahfoiaaaGreat.Am
